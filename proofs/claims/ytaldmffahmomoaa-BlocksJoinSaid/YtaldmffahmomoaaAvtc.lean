/- The evaluator, in one text: over any program; no conditions but those that each law names. -/
import Derived.Test.YtaldmffahmomoaaAvtb
set_option linter.unusedSimpArgs false
set_option linter.unusedVariables false
set_option linter.unusedSectionVars false
/- Chapter 19: the document's tokenizer: numbers. -/
set_option linter.unusedSimpArgs false
set_option linter.unusedVariables false
set_option linter.unusedSectionVars false
set_option maxRecDepth 100000
namespace Go.Av
open Go.Proofs Go.Proofs.Ytaldmffahmomoaa Go.RowKit
def drun (l : List Int) (a : Nat) : Nat := runF (atB dgC l) l.length a
theorem dg_end {l : List Int} : ∀ a, l.length ≤ a → atB dgC l a = false := fun a h => by simp [atB]; omega
def signB (l : List Int) (a : Nat) : Nat := if isC l a 43 || isC l a 45 then a + 1 else a
def expF (l : List Int) (a : Nat) (w : Bool) : Nat × Bool :=
  if isC l a 101 || isC l a 69 then (if atB dgC l (signB l (a + 1)) then (drun l (signB l (a + 1)), false) else (a, w)) else (a, w)
def fracF (l : List Int) (a : Nat) : Nat × Bool := if isC l a 46 && atB dgC l (a + 1) then expF l (drun l (a + 1)) false else expF l a true
/-- The place behind a number's characters, and whether it is whole. -/
def digF (l : List Int) (a : Nat) : Nat × Bool := fracF l (drun l (signB l a))
theorem signB_pos {l : List Int} {a : Nat} : a ≤ signB l a ∧ signB l a ≤ a + 1 ∧ (a ≤ l.length → signB l a ≤ l.length) := by
  unfold signB
  split
  · rename_i h
    simp only [Bool.or_eq_true] at h
    have : a < l.length := by rcases h with h | h <;> exact isC_lt h
    omega
  · omega
theorem expF_pos {l : List Int} {a : Nat} {w : Bool} (h : a ≤ l.length) : a ≤ (expF l a w).1 ∧ (expF l a w).1 ≤ l.length := by
  unfold expF
  split
  · rename_i he
    simp only [Bool.or_eq_true] at he
    have : a < l.length := by rcases he with h | h <;> exact isC_lt h
    have h1 := signB_pos (l := l) (a := a + 1)
    have h2 := runF_pos (p := atB dgC l) (n := l.length) (a := signB l (a + 1))
    split
    · simp only [drun]; omega
    · exact ⟨Nat.le_refl _, h⟩
  · exact ⟨Nat.le_refl _, h⟩
theorem digF_pos {l : List Int} {a : Nat} (h : a ≤ l.length) : a ≤ (digF l a).1 ∧ (digF l a).1 ≤ l.length := by
  have h1 := signB_pos (l := l) (a := a)
  have h2 := runF_pos (p := atB dgC l) (n := l.length) (a := signB l a)
  unfold digF fracF
  cases hf : isC l (drun l (signB l a)) 46 && atB dgC l (drun l (signB l a) + 1) with
  | true =>
    rw [if_pos rfl]
    simp only [Bool.and_eq_true] at hf
    have h3 := atB_lt hf.2
    have h4 := runF_pos (p := atB dgC l) (n := l.length) (a := drun l (signB l a) + 1)
    have := expF_pos (l := l) (a := drun l (drun l (signB l a) + 1)) (w := false) (by unfold drun at *; omega)
    unfold drun at *
    omega
  | false =>
    rw [if_neg (by simp)]
    have := expF_pos (l := l) (a := drun l (signB l a)) (w := true) (by unfold drun at *; omega)
    unfold drun at *
    omega
theorem dig_at {l : List Int} {a : Nat} (h : CL l) : callL Try.prog ext9 67 [LI l, .int .i64 a] [] = some (.bool (atB dgC l a), [.no], []) := digit_L h a
theorem sign_cases {l : List Int} {a m : Nat} (h : signB l a = m) : isC l a 43 = true ∧ ((a + 1 : Nat) : Int) = m ∨ isC l a 43 = false ∧ isC l a 45 = true ∧ ((a + 1 : Nat) : Int) = m ∨ isC l a 43 = false ∧ isC l a 45 = false ∧ ((a : Nat) : Int) = m := by
  unfold signB at h
  cases g3 : isC l a 43 with
  | true => rw [g3, Bool.true_or, if_pos rfl] at h; exact .inl ⟨rfl, by omega⟩
  | false =>
    cases g4 : isC l a 45 with
    | true => rw [g3, g4, if_pos (by rfl)] at h; exact .inr (.inl ⟨rfl, rfl, by omega⟩)
    | false => rw [g3, g4, if_neg (by simp)] at h; exact .inr (.inr ⟨rfl, rfl, by omega⟩)
set_option maxHeartbeats 16000000 in
theorem digits_L {l : List Int} (h : CL l) (a0 : Nat) (ha0 : a0 ≤ l.length) : callL Try.prog ext9 68 [LI l, .int .i64 a0] [] = some (.tuple [.int .i64 ((digF l a0).1 : Nat), .bool (digF l a0).2], [.no, .no], []) := by
  have hl := h.len
  have lN := LIlen l
  have i1 := is_L h a0 43
  have i2 := is_L h a0 45
  have iw := w1 a0 (by omega)
  have hD : fracF l (drun l (signB l a0)) = digF l a0 := rfl
  obtain ⟨m0, hm0⟩ : ∃ m, Hid (signB l a0 = m) := ⟨_, rfl⟩
  have hle0 := (signB_pos (l := l) (a := a0)).2.2 ha0
  rw [hm0.out] at hD hle0
  have HS0 := sign_cases hm0.out
  clear hm0
  refine callK (m := 70) (res := [4, 5]) (rs := [.tmp 4, .tmp 5]) rfl Try.func68 rfl rfl rfl rfl rfl ?_
  rcases HS0 with ⟨p1, pm⟩ | ⟨p1, p2, pm⟩ | ⟨p1, p2, pm⟩
  all_goals
    rw [p1] at i1
    try rw [p2] at i2
    first | ((have hq : a0 = m0 := by omega); subst hq) | ((have hq : a0 + 1 = m0 := by omega); subst hq)
    have HD := Hd.mk hD
    clear hD
    repeat' (first
    | simp only [*, go_seq, go_cond, go_block, go_skip, go_loop, go_region, go_ops_nil, go_ops, okG_some, gwD_bool, cwD_bool, gw_true, gw_false, guardG, opG, isPtr, inB, sval, stake, eats, eaters, get, cval, cval1, croom, St.taken, put_slot, put_room, dem_none, setBox_slot, setBox_room, entry_slot, entry_room, ↓reduceIte, Nat.reduceEqDiff, Nat.reduceLT, reduceCtorEq, decide_true, List.filterMap_cons, List.filterMap_nil, Option.bind_some, Option.map_some, List.getElem?_cons_zero, List.getElem?_cons_succ, List.getD_cons_zero, List.getD_cons_succ, List.contains_cons, List.contains_nil, List.map_cons, List.map_nil, beq_self_eq_true, Bool.or_false, Bool.and_true, Nat.reduceBEq, Bool.false_eq_true, dbin, dIntBin, okR, callG, row9, frz9, frzOf_def, frz_nil, beq_false, Bool.not_true, pureB, leaf, leafN, List.all_cons, List.all_nil, List.nil_append, List.append_nil, List.length_nil, Bool.and_false]
    | (refine drW_intro (by kernel_rfl) ?_)
    | (refine gw_intro (fun h => ?_) (fun h => ?_) <;> (try simp only [beq_true, beq_false, Bool.not_eq_eq_eq_not, Bool.not_true, Bool.not_false, Bool.not_not, decide_eq_true_eq, decide_eq_false_iff_not, ge_iff_le, gt_iff_lt] at h)))
    clear i1 i2 iw pm p1
    try clear p2
    refine loopH (fun st => ∃ b : Nat, b ≤ l.length ∧ st.slot 0 = LI l ∧ st.slot 1 = .int .i64 b ∧ st.room 1 = [] ∧ st.slot 6 = .bool true ∧ st.room 6 = [] ∧ Hd (fracF l (drun l b) = digF l a0)) (fun st => l.length - slotI st 1) ?_ ?_
    · refine ⟨_, hle0, ?_, ?_, ?_, ?_, ?_, HD⟩ <;> first | (simp only [*, put_slot, put_room, dem_slot, dem_room, entry_slot, entry_room, ↓reduceIte, Nat.reduceEqDiff, reduceCtorEq, List.getD_cons_zero, List.getD_cons_succ]; done) | (simp only [*, go_nil, go_seq, go_cond, go_block, go_blk, go_skip, go_exit, go_retc, go_xcode, go_xblk, go_loop, go_region, go_draw, go_ops_nil, go_dops_nil, go_ops, go_dops1, go_dops, okG_some, okB_some, gwD_bool, gwD_undef, cwD_bool, gw_true, gw_false, guardG_none, guardG, opG, opD, isPtr, isStore, inB, sval, stake, eats, eaters, get, cval, cval1, croom, St.taken, put_slot, put_room, put_box, put_ctr, put_none, dem_none, dem_slot, dem_box, dem_ctr, dem_room, dem_room1, setBox_slot, setBox_room, setBox_ctr, setBox_box, entry_slot, entry_room, entry_box, entry_ctr, endQ, endR, endV, rvars, rvar, room1, ↓reduceIte, Nat.reduceEqDiff, Nat.reduceLT, Nat.reduceLeDiff, reduceCtorEq, decide_true, decide_false, List.filterMap_cons, List.filterMap_nil, Option.bind_some, Option.map_some, Option.bind_none, Option.map_none, List.getElem?_cons_zero, List.getElem?_cons_succ, List.getD_cons_zero, List.getD_cons_succ, List.contains_cons, List.contains_nil, List.map_cons, List.map_nil, beq_self_eq_true, beq_iff_eq, Bool.or_false, Bool.false_or, Bool.or_true, Bool.true_or, Bool.and_true, Bool.true_and, Nat.reduceBEq, Bool.false_eq_true, dbin, dIntBin, okR, callG, endN, newV, row9, frz9, frzOf_def, frz_nil, frz_cons, frzD, rowList, rowElem, stepRow, madeRow, isLocal, allocKey, isAlloc, loadsOwn, ptrAt, beq_true, beq_false, Bool.not_true, Bool.not_false, pureB, leaf, leafN, List.all_cons, List.all_nil, List.nil_append, List.cons_append, List.append_nil, List.take_nil, List.range_zero, List.length_nil, List.length_cons, String.reduceBEq, Bool.true_beq, Bool.false_beq, List.find?_cons, List.find?_nil, dun, List.getElem?_nil, List.take_zero, List.drop_zero, List.take_succ_cons, List.drop_succ_cons, dcells, Nat.zero_add, Nat.reduceAdd, Nat.reduceSub, Nat.reduceMul, stepBox, Bool.and_false, Bool.false_and, and_true, true_and, List.zipWith, Option.getD_some, List.singleton_append, List.map_map, Int.natCast_nonneg, Int.toNat_natCast, and_self, Nat.mul_one, Nat.add_zero, if_true, St.freeze, false_or, or_true, true_or, or_false, szOk_cons, szOk_nil, List.cons.injEq, false_and, and_false, forall_const, List.getElem?_toArray, List.getElem_toArray, dopt, dbound, ge_iff_le, gt_iff_lt, dStrBin, List.take_length, plainR_s, Int.reduceLE, Int.reduceLT, Int.reduceToNat, Int.reduceBEq, Int.reduceBNe, ty3, ty4, ty5, ty9, dp3, dp4, dp5, dp9, ty22, ia22, len22, ap22, sl22, bs22e, ty44, ia44, len44, ap44, sl44, bs44e, ty62, ia62, len62, ap62, sl62, bs62e, bs22, bs22_2, bs22_3, bs22_4, bs44, ty56, dp56, fa56_0, fp56_0, fa56_1, fp56_1, fa56_2, fp56_2, fa56_3, fp56_3, fa56_4, fp56_4, fa56_5, fp56_5, zr56, ty24, ia24, len24, ap24, bs24e, bs24, ty32, dp32, fa32_0, fp32_0, fa32_1, fp32_1, fa32_2, fp32_2, fa32_3, fp32_3, fa32_4, fp32_4, fa32_5, fp32_5, fa32_6, fp32_6, zr32, ty26, ia26, len26, ap26, bs26e, bs26, ty41, dp41, fa41_0, fp41_0, fa41_1, fp41_1, fa41_2, fp41_2, fa41_3, fp41_3, zr41, ty35, ia35, len35, ap35, bs35e, bs35, bd56_012, bd56_0123, bd56_01235, bd56_01, bd56_01245, bd32_24, bd32_012, bd32_, bd32_243, bd41_, bd41_0, ty51, fp51_0, fp51_1, fp51_2, bd51, dp24, ia22r, len22r, len9, ix9, sl9, cv53, cv35, cv922, cv229]; rfl)
    · rintro st1 K1 ⟨b1, hbl1, z01, z11, zr1, z61, zq1, hv1⟩ hn hx hr
      have hd1 := dig_at (a := b1) h
      have hw1 := w1 b1 (by omega)
      cases hc1 : atB dgC l b1 with
      | true =>
        have hlt1 := atB_lt hc1
        have T : Hd (fracF l (drun l (b1 + 1)) = digF l a0) := by
          have h1 : fracF l (drun l b1) = digF l a0 := hv1
          rw [show drun l b1 = drun l (b1 + 1) from runF_step dg_end hc1] at h1
          exact h1
        rw [hc1] at hd1
        clear hv1 h
        repeat' (first
    | simp only [*, go_nil, go_seq, go_cond, go_block, go_blk, go_skip, go_region, go_ops_nil, go_ops, okG_some, cwD_bool, gw_true, guardG, opG, isPtr, inB, sval, stake, eats, eaters, get, cval, cval1, St.taken, put_slot, put_room, dem_none, ↓reduceIte, Nat.reduceEqDiff, Nat.reduceLT, decide_true, List.filterMap_cons, List.filterMap_nil, Option.map_some, List.contains_cons, List.contains_nil, List.map_cons, List.map_nil, Bool.or_false, Bool.and_true, Nat.reduceBEq, Bool.false_eq_true, dbin, dIntBin, okR, callG, row9, frz9, frzOf_def, frz_nil, pureB, leaf, leafN, List.all_cons, List.all_nil, List.nil_append, List.append_nil, Bool.and_false]
    | (refine drW_intro (by kernel_rfl) ?_)
    | (refine gw_intro (fun h => ?_) (fun h => ?_) <;> (try simp only [beq_true, beq_false, Bool.not_eq_eq_eq_not, Bool.not_true, Bool.not_false, Bool.not_not, decide_eq_true_eq, decide_eq_false_iff_not, ge_iff_le, gt_iff_lt] at h)))
        refine hn _ ⟨b1 + 1, hlt1, ?_, ?_, ?_, ?_, ?_, T⟩ ?_
        · simp only [*, put_slot, dem_slot, ↓reduceIte, reduceCtorEq]
        · simp only [*, put_slot, ↓reduceIte]
        · simp only [*, put_room, ↓reduceIte]
        · simp only [*, put_slot, dem_slot, ↓reduceIte, Nat.reduceEqDiff]
        · simp only [*, put_room, dem_room, ↓reduceIte, Nat.reduceEqDiff]
        · simp only [slotI, *, put_slot, ↓reduceIte, Int.toNat_natCast]
          omega
      | false =>
        have E1 : fracF l b1 = digF l a0 := by
          have h1 : fracF l (drun l b1) = digF l a0 := hv1
          rw [show drun l b1 = b1 from runF_stop hc1] at h1
          exact h1
        rw [hc1] at hd1
        clear hv1 hn hr hc1
        have k1 := is_L h b1 46
        have k2 := dig_at (a := b1 + 1) h
        have k3 := w1 b1 (by omega)
        unfold fracF at E1
        have HF : (isC l b1 46 = true ∧ atB dgC l (b1 + 1) = true ∧ Hd (expF l (drun l (b1 + 1)) false = digF l a0)) ∨ ((isC l b1 46 = false ∨ isC l b1 46 = true ∧ atB dgC l (b1 + 1) = false) ∧ expF l b1 true = digF l a0) := by
          cases m1 : isC l b1 46 with
          | false => rw [m1, Bool.false_and, if_neg (by simp)] at E1; exact .inr ⟨.inl rfl, E1⟩
          | true =>
            cases m2 : atB dgC l (b1 + 1) with
            | true => rw [m1, m2, if_pos (by rfl)] at E1; exact .inl ⟨rfl, rfl, E1⟩
            | false => rw [m1, m2, if_neg (by simp)] at E1; exact .inr ⟨.inr ⟨rfl, rfl⟩, E1⟩
        clear E1
        rcases HF with ⟨m1, m2, hE⟩ | ⟨hm, EE⟩
        · rw [m1] at k1
          rw [m2] at k2
          have m2l := Nat.le_of_lt (atB_lt m2)
          repeat' (first
    | simp only [*, go_nil, go_seq, go_cond, go_exit, go_xcode, go_region, go_ops_nil, go_ops, okG_some, cwD_bool, gw_false, guardG, opG, isPtr, inB, sval, stake, eats, eaters, get, St.taken, put_slot, dem_none, ↓reduceIte, Nat.reduceEqDiff, Nat.reduceLT, decide_true, List.filterMap_cons, List.filterMap_nil, List.contains_cons, List.contains_nil, List.map_cons, List.map_nil, Bool.or_false, Bool.and_true, Nat.reduceBEq, Bool.false_eq_true, okR, callG, row9, frz9, frzOf_def, frz_nil, pureB, leaf, leafN, List.all_cons, List.all_nil, List.nil_append, List.append_nil, Bool.and_false]
    | (refine drW_intro (by kernel_rfl) ?_)
    | (refine gw_intro (fun h => ?_) (fun h => ?_) <;> (try simp only [beq_true, beq_false, Bool.not_eq_eq_eq_not, Bool.not_true, Bool.not_false, Bool.not_not, decide_eq_true_eq, decide_eq_false_iff_not, ge_iff_le, gt_iff_lt] at h)))
          refine hx _ _ ?_
          repeat' (first
    | simp only [*, go_seq, go_cond, go_block, go_xblk, go_loop, go_region, go_ops_nil, go_ops, okG_some, gwD_bool, cwD_bool, gw_true, guardG, opG, isPtr, inB, sval, stake, eats, eaters, get, cval, cval1, croom, St.taken, put_slot, put_room, dem_none, setBox_slot, setBox_room, ↓reduceIte, Nat.reduceEqDiff, Nat.reduceLT, reduceCtorEq, decide_true, List.filterMap_cons, List.filterMap_nil, Option.bind_some, Option.map_some, List.getElem?_cons_zero, List.getElem?_cons_succ, List.contains_cons, List.contains_nil, List.map_cons, List.map_nil, beq_self_eq_true, Bool.or_false, Bool.and_true, Nat.reduceBEq, Bool.false_eq_true, dbin, dIntBin, okR, callG, row9, frz9, frzOf_def, frz_nil, pureB, leaf, leafN, List.all_cons, List.all_nil, List.nil_append, List.append_nil, Bool.and_false, dStrBin]
    | (refine drW_intro (by kernel_rfl) ?_)
    | (refine gw_intro (fun h => ?_) (fun h => ?_) <;> (try simp only [beq_true, beq_false, Bool.not_eq_eq_eq_not, Bool.not_true, Bool.not_false, Bool.not_not, decide_eq_true_eq, decide_eq_false_iff_not, ge_iff_le, gt_iff_lt] at h)))
          clear hx m1 m2
          refine loopH (fun st => ∃ b : Nat, b ≤ l.length ∧ st.slot 0 = LI l ∧ st.slot 1 = .int .i64 b ∧ st.room 1 = [] ∧ st.slot 6 = .bool false ∧ st.room 6 = [] ∧ Hd (expF l (drun l b) false = digF l a0)) (fun st => l.length - slotI st 1) ?_ ?_
          · refine ⟨b1 + 1, m2l, ?_, ?_, ?_, ?_, ?_, hE⟩ <;> first | (simp only [*, put_slot, put_room, dem_slot, dem_room, ↓reduceIte, Nat.reduceEqDiff, reduceCtorEq]; done) | (simp only [*, go_nil, go_seq, go_cond, go_block, go_blk, go_skip, go_exit, go_retc, go_xcode, go_xblk, go_loop, go_region, go_draw, go_ops_nil, go_dops_nil, go_ops, go_dops1, go_dops, okG_some, okB_some, gwD_bool, gwD_undef, cwD_bool, gw_true, gw_false, guardG_none, guardG, opG, opD, isPtr, isStore, inB, sval, stake, eats, eaters, get, cval, cval1, croom, St.taken, put_slot, put_room, put_box, put_ctr, put_none, dem_none, dem_slot, dem_box, dem_ctr, dem_room, dem_room1, setBox_slot, setBox_room, setBox_ctr, setBox_box, entry_slot, entry_room, entry_box, entry_ctr, endQ, endR, endV, rvars, rvar, room1, ↓reduceIte, Nat.reduceEqDiff, Nat.reduceLT, Nat.reduceLeDiff, reduceCtorEq, decide_true, decide_false, List.filterMap_cons, List.filterMap_nil, Option.bind_some, Option.map_some, Option.bind_none, Option.map_none, List.getElem?_cons_zero, List.getElem?_cons_succ, List.getD_cons_zero, List.getD_cons_succ, List.contains_cons, List.contains_nil, List.map_cons, List.map_nil, beq_self_eq_true, beq_iff_eq, Bool.or_false, Bool.false_or, Bool.or_true, Bool.true_or, Bool.and_true, Bool.true_and, Nat.reduceBEq, Bool.false_eq_true, dbin, dIntBin, okR, callG, endN, newV, row9, frz9, frzOf_def, frz_nil, frz_cons, frzD, rowList, rowElem, stepRow, madeRow, isLocal, allocKey, isAlloc, loadsOwn, ptrAt, beq_true, beq_false, Bool.not_true, Bool.not_false, pureB, leaf, leafN, List.all_cons, List.all_nil, List.nil_append, List.cons_append, List.append_nil, List.take_nil, List.range_zero, List.length_nil, List.length_cons, String.reduceBEq, Bool.true_beq, Bool.false_beq, List.find?_cons, List.find?_nil, dun, List.getElem?_nil, List.take_zero, List.drop_zero, List.take_succ_cons, List.drop_succ_cons, dcells, Nat.zero_add, Nat.reduceAdd, Nat.reduceSub, Nat.reduceMul, stepBox, Bool.and_false, Bool.false_and, and_true, true_and, List.zipWith, Option.getD_some, List.singleton_append, List.map_map, Int.natCast_nonneg, Int.toNat_natCast, and_self, Nat.mul_one, Nat.add_zero, if_true, St.freeze, false_or, or_true, true_or, or_false, szOk_cons, szOk_nil, List.cons.injEq, false_and, and_false, forall_const, List.getElem?_toArray, List.getElem_toArray, dopt, dbound, ge_iff_le, gt_iff_lt, dStrBin, List.take_length, plainR_s, Int.reduceLE, Int.reduceLT, Int.reduceToNat, Int.reduceBEq, Int.reduceBNe, ty3, ty4, ty5, ty9, dp3, dp4, dp5, dp9, ty22, ia22, len22, ap22, sl22, bs22e, ty44, ia44, len44, ap44, sl44, bs44e, ty62, ia62, len62, ap62, sl62, bs62e, bs22, bs22_2, bs22_3, bs22_4, bs44, ty56, dp56, fa56_0, fp56_0, fa56_1, fp56_1, fa56_2, fp56_2, fa56_3, fp56_3, fa56_4, fp56_4, fa56_5, fp56_5, zr56, ty24, ia24, len24, ap24, bs24e, bs24, ty32, dp32, fa32_0, fp32_0, fa32_1, fp32_1, fa32_2, fp32_2, fa32_3, fp32_3, fa32_4, fp32_4, fa32_5, fp32_5, fa32_6, fp32_6, zr32, ty26, ia26, len26, ap26, bs26e, bs26, ty41, dp41, fa41_0, fp41_0, fa41_1, fp41_1, fa41_2, fp41_2, fa41_3, fp41_3, zr41, ty35, ia35, len35, ap35, bs35e, bs35, bd56_012, bd56_0123, bd56_01235, bd56_01, bd56_01245, bd32_24, bd32_012, bd32_, bd32_243, bd41_, bd41_0, ty51, fp51_0, fp51_1, fp51_2, bd51, dp24, ia22r, len22r, len9, ix9, sl9, cv53, cv35, cv922, cv229]; rfl)
          · rintro st2 K2 ⟨b2, hbl2, z02, z12, zr2, z62, zq2, hv2⟩ hn hx hr
            have hd2 := dig_at (a := b2) h
            have hw2 := w1 b2 (by omega)
            cases hc2 : atB dgC l b2 with
            | true =>
              have hlt2 := atB_lt hc2
              have T : Hd (expF l (drun l (b2 + 1)) false = digF l a0) := by
                have h1 : expF l (drun l b2) false = digF l a0 := hv2
                rw [show drun l b2 = drun l (b2 + 1) from runF_step dg_end hc2] at h1
                exact h1
              rw [hc2] at hd2
              clear hv2 h
              repeat' (first
    | simp only [*, go_nil, go_seq, go_cond, go_block, go_blk, go_skip, go_region, go_ops_nil, go_ops, okG_some, cwD_bool, gw_true, guardG, opG, isPtr, inB, sval, stake, eats, eaters, get, cval, cval1, St.taken, put_slot, put_room, dem_none, ↓reduceIte, Nat.reduceEqDiff, Nat.reduceLT, decide_true, List.filterMap_cons, List.filterMap_nil, Option.map_some, List.contains_cons, List.contains_nil, List.map_cons, List.map_nil, Bool.or_false, Bool.and_true, Nat.reduceBEq, Bool.false_eq_true, dbin, dIntBin, okR, callG, row9, frz9, frzOf_def, frz_nil, pureB, leaf, leafN, List.all_cons, List.all_nil, List.nil_append, List.append_nil, Bool.and_false]
    | (refine drW_intro (by kernel_rfl) ?_)
    | (refine gw_intro (fun h => ?_) (fun h => ?_) <;> (try simp only [beq_true, beq_false, Bool.not_eq_eq_eq_not, Bool.not_true, Bool.not_false, Bool.not_not, decide_eq_true_eq, decide_eq_false_iff_not, ge_iff_le, gt_iff_lt] at h)))
              refine hn _ ⟨b2 + 1, hlt2, ?_, ?_, ?_, ?_, ?_, T⟩ ?_
              · simp only [*, put_slot, dem_slot, ↓reduceIte, reduceCtorEq]
              · simp only [*, put_slot, ↓reduceIte]
              · simp only [*, put_room, ↓reduceIte]
              · simp only [*, put_slot, dem_slot, ↓reduceIte, Nat.reduceEqDiff]
              · simp only [*, put_room, dem_room, ↓reduceIte, Nat.reduceEqDiff]
              · simp only [slotI, *, put_slot, ↓reduceIte, Int.toNat_natCast]
                omega
            | false =>
              have E2 : expF l b2 false = digF l a0 := by
                have h1 : expF l (drun l b2) false = digF l a0 := hv2
                rw [show drun l b2 = b2 from runF_stop hc2] at h1
                exact h1
              rw [hc2] at hd2
              clear hv2 hn hr hc2
              obtain ⟨w, hw⟩ : ∃ w, Hid (false = w) := ⟨_, rfl⟩
              rw [hw.out] at z62
              have EE := E2
              rw [hw.out] at EE
              clear E2
              obtain ⟨m, hm⟩ : ∃ m, Hid (signB l (b2 + 1) = m) := ⟨_, rfl⟩
              have f1 := is_L h b2 101
              have f2 := is_L h b2 69
              have f3 := is_L h (b2 + 1) 43
              have f4 := is_L h (b2 + 1) 45
              have f5 := dig_at (a := m) h
              have v1 := w1 b2 (by omega)
              have v2 := w1 (b2 + 1) (by omega)
              have HS := sign_cases hm.out
              unfold expF at EE
              rw [hm.out] at EE
              clear hm
              have HC : ((isC l b2 101 = false ∧ isC l b2 69 = false) ∧ Hd ((b2, w) = digF l a0)) ∨ ((isC l b2 101 = true ∨ (isC l b2 101 = false ∧ isC l b2 69 = true)) ∧ (isC l (b2 + 1) 43 = true ∧ ((b2 + 1 + 1 : Nat) : Int) = m ∨ isC l (b2 + 1) 43 = false ∧ isC l (b2 + 1) 45 = true ∧ ((b2 + 1 + 1 : Nat) : Int) = m ∨ isC l (b2 + 1) 43 = false ∧ isC l (b2 + 1) 45 = false ∧ ((b2 + 1 : Nat) : Int) = m) ∧
                  (atB dgC l m = true ∧ Hd ((drun l m, false) = digF l a0) ∨ atB dgC l m = false ∧ Hd ((b2, w) = digF l a0))) := by
                cases g1 : isC l b2 101 with
                | false =>
                  cases g2 : isC l b2 69 with
                  | false =>
                    rw [g1, g2, if_neg (by simp)] at EE
                    exact .inl ⟨⟨rfl, rfl⟩, EE⟩
                  | true =>
                    rw [g1, g2, if_pos (by rfl)] at EE
                    refine .inr ⟨.inr ⟨rfl, rfl⟩, HS, ?_⟩
                    cases g5 : atB dgC l m with
                    | true => rw [g5, if_pos rfl] at EE; exact .inl ⟨rfl, EE⟩
                    | false => rw [g5, if_neg (by simp)] at EE; exact .inr ⟨rfl, EE⟩
                | true =>
                  rw [g1, Bool.true_or, if_pos rfl] at EE
                  refine .inr ⟨.inl rfl, HS, ?_⟩
                  cases g5 : atB dgC l m with
                  | true => rw [g5, if_pos rfl] at EE; exact .inl ⟨rfl, EE⟩
                  | false => rw [g5, if_neg (by simp)] at EE; exact .inr ⟨rfl, EE⟩
              clear EE HS
              rcases HC with ⟨⟨g1, g2⟩, hE⟩ | ⟨hg, hs, hdg⟩
              · rw [g1] at f1
                rw [g2] at f2
                have e1 := (congrArg Prod.fst (show (b2, w) = digF l a0 from hE)).symm
                have e2 := (congrArg Prod.snd (show (b2, w) = digF l a0 from hE)).symm
                simp only at e1 e2
                clear h hE f3 f4 f5
                repeat' (first
    | simp only [*, go_nil, go_seq, go_cond, go_exit, go_xcode, go_region, go_ops_nil, go_ops, okG_some, cwD_bool, gw_false, guardG, opG, isPtr, inB, sval, stake, eats, eaters, get, St.taken, put_slot, dem_none, ↓reduceIte, Nat.reduceEqDiff, Nat.reduceLT, decide_true, List.filterMap_cons, List.filterMap_nil, List.contains_cons, List.contains_nil, List.map_cons, List.map_nil, Bool.or_false, Bool.and_true, Nat.reduceBEq, Bool.false_eq_true, okR, callG, row9, frz9, frzOf_def, frz_nil, pureB, leaf, leafN, List.all_cons, List.all_nil, List.nil_append, List.append_nil, Bool.and_false]
    | (refine drW_intro (by kernel_rfl) ?_)
    | (refine gw_intro (fun h => ?_) (fun h => ?_) <;> (try simp only [beq_true, beq_false, Bool.not_eq_eq_eq_not, Bool.not_true, Bool.not_false, Bool.not_not, decide_eq_true_eq, decide_eq_false_iff_not, ge_iff_le, gt_iff_lt] at h)))
                refine hx _ _ ?_
                repeat' (first
    | simp only [*, go_seq, go_cond, go_skip, go_retc, go_xblk, go_region, go_ops_nil, go_ops, okG_some, gwD_bool, cwD_bool, gw_true, gw_false, guardG, opG, isPtr, inB, sval, stake, eats, eaters, get, cval, cval1, croom, St.taken, put_slot, put_room, put_box, dem_none, dem_slot, dem_box, dem_room, setBox_slot, setBox_room, endQ, endR, endV, rvars, rvar, room1, ↓reduceIte, Nat.reduceEqDiff, Nat.reduceLT, reduceCtorEq, decide_true, List.filterMap_cons, List.filterMap_nil, Option.bind_some, List.getElem?_cons_zero, List.getElem?_cons_succ, List.contains_cons, List.contains_nil, List.map_cons, List.map_nil, beq_self_eq_true, Bool.or_false, Bool.or_true, Bool.and_true, Nat.reduceBEq, Bool.false_eq_true, okR, callG, row9, frz9, frzOf_def, frz_nil, pureB, leaf, leafN, List.all_cons, List.all_nil, List.nil_append, List.append_nil, List.take_nil, List.range_zero, Bool.and_false, and_self]
    | (refine drW_intro (by kernel_rfl) ?_)
    | (refine gw_intro (fun h => ?_) (fun h => ?_) <;> (try simp only [beq_true, beq_false, Bool.not_eq_eq_eq_not, Bool.not_true, Bool.not_false, Bool.not_not, decide_eq_true_eq, decide_eq_false_iff_not, ge_iff_le, gt_iff_lt] at h)))
              · rcases hg with g1 | ⟨g1, g2⟩ <;> rcases hs with ⟨g3, hm⟩ | ⟨g3, g4, hm⟩ | ⟨g3, g4, hm⟩ <;> rcases hdg with ⟨g5, hE⟩ | ⟨g5, hE⟩
                all_goals
                  rw [g1] at f1
                  try rw [g2] at f2
                  rw [g3] at f3
                  try rw [g4] at f4
                  first | ((have hq : b2 + 1 = m := by omega); subst hq) | ((have hq : b2 + 1 + 1 = m := by omega); subst hq)
                  clear hm
                  rw [g5] at f5
                  try (
                    have e1 := (congrArg Prod.fst (show (b2, w) = digF l a0 from hE)).symm
                    have e2 := (congrArg Prod.snd (show (b2, w) = digF l a0 from hE)).symm
                    simp only at e1 e2
                    clear hE)
                  clear g1 g3
                  try clear g2
                  try clear g4
                  repeat' (first
    | simp only [*, go_nil, go_seq, go_cond, go_exit, go_xcode, go_region, go_ops_nil, go_ops, okG_some, cwD_bool, gw_false, guardG, opG, isPtr, inB, sval, stake, eats, eaters, get, St.taken, put_slot, dem_none, ↓reduceIte, Nat.reduceEqDiff, Nat.reduceLT, decide_true, List.filterMap_cons, List.filterMap_nil, List.contains_cons, List.contains_nil, List.map_cons, List.map_nil, Bool.or_false, Bool.and_true, Nat.reduceBEq, Bool.false_eq_true, okR, callG, row9, frz9, frzOf_def, frz_nil, pureB, leaf, leafN, List.all_cons, List.all_nil, List.nil_append, List.append_nil, Bool.and_false]
    | (refine drW_intro (by kernel_rfl) ?_)
    | (refine gw_intro (fun h => ?_) (fun h => ?_) <;> (try simp only [beq_true, beq_false, Bool.not_eq_eq_eq_not, Bool.not_true, Bool.not_false, Bool.not_not, decide_eq_true_eq, decide_eq_false_iff_not, ge_iff_le, gt_iff_lt] at h)))
                  refine hx _ _ ?_
                  repeat' (first
    | simp only [*, go_seq, go_cond, go_block, go_skip, go_retc, go_xblk, go_loop, go_region, go_ops_nil, go_ops, okG_some, gwD_bool, cwD_bool, gw_true, gw_false, guardG, opG, isPtr, inB, sval, stake, eats, eaters, get, cval, cval1, croom, St.taken, put_slot, put_room, put_box, dem_none, dem_slot, dem_box, dem_room, setBox_slot, setBox_room, endQ, endR, endV, rvars, rvar, room1, ↓reduceIte, Nat.reduceEqDiff, Nat.reduceLT, reduceCtorEq, decide_true, List.filterMap_cons, List.filterMap_nil, Option.bind_some, Option.map_some, List.getElem?_cons_zero, List.getElem?_cons_succ, List.contains_cons, List.contains_nil, List.map_cons, List.map_nil, beq_self_eq_true, Bool.or_false, Bool.or_true, Bool.and_true, Nat.reduceBEq, Bool.false_eq_true, dbin, dIntBin, okR, callG, row9, frz9, frzOf_def, frz_nil, beq_false, Bool.not_true, pureB, leaf, leafN, List.all_cons, List.all_nil, List.nil_append, List.append_nil, List.take_nil, List.range_zero, Bool.and_false, and_self]
    | (refine drW_intro (by kernel_rfl) ?_)
    | (refine gw_intro (fun h => ?_) (fun h => ?_) <;> (try simp only [beq_true, beq_false, Bool.not_eq_eq_eq_not, Bool.not_true, Bool.not_false, Bool.not_not, decide_eq_true_eq, decide_eq_false_iff_not, ge_iff_le, gt_iff_lt] at h)))
                  try (
                    have hml := Nat.le_of_lt (atB_lt g5)
                    clear hx g5
                    refine loopH (fun st => ∃ b : Nat, b ≤ l.length ∧ st.slot 0 = LI l ∧ st.slot 1 = .int .i64 b ∧ st.room 1 = [] ∧ st.slot 6 = .bool false ∧ st.room 6 = [] ∧ Hd (((drun l b), false) = digF l a0)) (fun st => l.length - slotI st 1) ?_ ?_
                    · refine ⟨_, hml, ?_, ?_, ?_, ?_, ?_, hE⟩ <;> first | (simp only [*, put_slot, put_room, dem_slot, dem_room, ↓reduceIte, Nat.reduceEqDiff, reduceCtorEq]; done) | (simp only [*, go_nil, go_seq, go_cond, go_block, go_blk, go_skip, go_exit, go_retc, go_xcode, go_xblk, go_loop, go_region, go_draw, go_ops_nil, go_dops_nil, go_ops, go_dops1, go_dops, okG_some, okB_some, gwD_bool, gwD_undef, cwD_bool, gw_true, gw_false, guardG_none, guardG, opG, opD, isPtr, isStore, inB, sval, stake, eats, eaters, get, cval, cval1, croom, St.taken, put_slot, put_room, put_box, put_ctr, put_none, dem_none, dem_slot, dem_box, dem_ctr, dem_room, dem_room1, setBox_slot, setBox_room, setBox_ctr, setBox_box, entry_slot, entry_room, entry_box, entry_ctr, endQ, endR, endV, rvars, rvar, room1, ↓reduceIte, Nat.reduceEqDiff, Nat.reduceLT, Nat.reduceLeDiff, reduceCtorEq, decide_true, decide_false, List.filterMap_cons, List.filterMap_nil, Option.bind_some, Option.map_some, Option.bind_none, Option.map_none, List.getElem?_cons_zero, List.getElem?_cons_succ, List.getD_cons_zero, List.getD_cons_succ, List.contains_cons, List.contains_nil, List.map_cons, List.map_nil, beq_self_eq_true, beq_iff_eq, Bool.or_false, Bool.false_or, Bool.or_true, Bool.true_or, Bool.and_true, Bool.true_and, Nat.reduceBEq, Bool.false_eq_true, dbin, dIntBin, okR, callG, endN, newV, row9, frz9, frzOf_def, frz_nil, frz_cons, frzD, rowList, rowElem, stepRow, madeRow, isLocal, allocKey, isAlloc, loadsOwn, ptrAt, beq_true, beq_false, Bool.not_true, Bool.not_false, pureB, leaf, leafN, List.all_cons, List.all_nil, List.nil_append, List.cons_append, List.append_nil, List.take_nil, List.range_zero, List.length_nil, List.length_cons, String.reduceBEq, Bool.true_beq, Bool.false_beq, List.find?_cons, List.find?_nil, dun, List.getElem?_nil, List.take_zero, List.drop_zero, List.take_succ_cons, List.drop_succ_cons, dcells, Nat.zero_add, Nat.reduceAdd, Nat.reduceSub, Nat.reduceMul, stepBox, Bool.and_false, Bool.false_and, and_true, true_and, List.zipWith, Option.getD_some, List.singleton_append, List.map_map, Int.natCast_nonneg, Int.toNat_natCast, and_self, Nat.mul_one, Nat.add_zero, if_true, St.freeze, false_or, or_true, true_or, or_false, szOk_cons, szOk_nil, List.cons.injEq, false_and, and_false, forall_const, List.getElem?_toArray, List.getElem_toArray, dopt, dbound, ge_iff_le, gt_iff_lt, dStrBin, List.take_length, plainR_s, Int.reduceLE, Int.reduceLT, Int.reduceToNat, Int.reduceBEq, Int.reduceBNe, ty3, ty4, ty5, ty9, dp3, dp4, dp5, dp9, ty22, ia22, len22, ap22, sl22, bs22e, ty44, ia44, len44, ap44, sl44, bs44e, ty62, ia62, len62, ap62, sl62, bs62e, bs22, bs22_2, bs22_3, bs22_4, bs44, ty56, dp56, fa56_0, fp56_0, fa56_1, fp56_1, fa56_2, fp56_2, fa56_3, fp56_3, fa56_4, fp56_4, fa56_5, fp56_5, zr56, ty24, ia24, len24, ap24, bs24e, bs24, ty32, dp32, fa32_0, fp32_0, fa32_1, fp32_1, fa32_2, fp32_2, fa32_3, fp32_3, fa32_4, fp32_4, fa32_5, fp32_5, fa32_6, fp32_6, zr32, ty26, ia26, len26, ap26, bs26e, bs26, ty41, dp41, fa41_0, fp41_0, fa41_1, fp41_1, fa41_2, fp41_2, fa41_3, fp41_3, zr41, ty35, ia35, len35, ap35, bs35e, bs35, bd56_012, bd56_0123, bd56_01235, bd56_01, bd56_01245, bd32_24, bd32_012, bd32_, bd32_243, bd41_, bd41_0, ty51, fp51_0, fp51_1, fp51_2, bd51, dp24, ia22r, len22r, len9, ix9, sl9, cv53, cv35, cv922, cv229]; rfl)
                    · rintro st3 K3 ⟨b3, hbl3, z03, z13, zr3, z63, zq3, hv3⟩ hn hx hr
                      have hd3 := dig_at (a := b3) h
                      have hw3 := w1 b3 (by omega)
                      cases hc3 : atB dgC l b3 with
                      | true =>
                        have hlt3 := atB_lt hc3
                        have T : Hd (((drun l (b3 + 1)), false) = digF l a0) := by
                          have h1 : ((drun l b3), false) = digF l a0 := hv3
                          rw [show drun l b3 = drun l (b3 + 1) from runF_step dg_end hc3] at h1
                          exact h1
                        rw [hc3] at hd3
                        clear hv3 h
                        repeat' (first
    | simp only [*, go_nil, go_seq, go_cond, go_block, go_blk, go_skip, go_region, go_ops_nil, go_ops, okG_some, cwD_bool, gw_true, guardG, opG, isPtr, inB, sval, stake, eats, eaters, get, cval, cval1, St.taken, put_slot, put_room, dem_none, ↓reduceIte, Nat.reduceEqDiff, Nat.reduceLT, decide_true, List.filterMap_cons, List.filterMap_nil, Option.map_some, List.contains_cons, List.contains_nil, List.map_cons, List.map_nil, Bool.or_false, Bool.and_true, Nat.reduceBEq, Bool.false_eq_true, dbin, dIntBin, okR, callG, row9, frz9, frzOf_def, frz_nil, pureB, leaf, leafN, List.all_cons, List.all_nil, List.nil_append, List.append_nil, Bool.and_false]
    | (refine drW_intro (by kernel_rfl) ?_)
    | (refine gw_intro (fun h => ?_) (fun h => ?_) <;> (try simp only [beq_true, beq_false, Bool.not_eq_eq_eq_not, Bool.not_true, Bool.not_false, Bool.not_not, decide_eq_true_eq, decide_eq_false_iff_not, ge_iff_le, gt_iff_lt] at h)))
                        refine hn _ ⟨b3 + 1, hlt3, ?_, ?_, ?_, ?_, ?_, T⟩ ?_
                        · simp only [*, put_slot, dem_slot, ↓reduceIte, reduceCtorEq]
                        · simp only [*, put_slot, ↓reduceIte]
                        · simp only [*, put_room, ↓reduceIte]
                        · simp only [*, put_slot, dem_slot, ↓reduceIte, Nat.reduceEqDiff]
                        · simp only [*, put_room, dem_room, ↓reduceIte, Nat.reduceEqDiff]
                        · simp only [slotI, *, put_slot, ↓reduceIte, Int.toNat_natCast]
                          omega
                      | false =>
                        have E3 : (b3, false) = digF l a0 := by
                          have h1 : ((drun l b3), false) = digF l a0 := hv3
                          rw [show drun l b3 = b3 from runF_stop hc3] at h1
                          exact h1
                        rw [hc3] at hd3
                        clear hv3 hn hr hc3
                        clear h
                        have e1 := (congrArg Prod.fst E3).symm
                        have e2 := (congrArg Prod.snd E3).symm
                        simp only at e1 e2
                        clear E3
                        repeat' (first
    | simp only [*, go_nil, go_seq, go_cond, go_exit, go_xcode, go_region, go_ops_nil, go_ops, okG_some, cwD_bool, gw_false, guardG, opG, isPtr, inB, sval, stake, eats, eaters, get, St.taken, put_slot, dem_none, ↓reduceIte, Nat.reduceEqDiff, Nat.reduceLT, decide_true, List.filterMap_cons, List.filterMap_nil, List.contains_cons, List.contains_nil, List.map_cons, List.map_nil, Bool.or_false, Bool.and_true, Nat.reduceBEq, Bool.false_eq_true, okR, callG, row9, frz9, frzOf_def, frz_nil, pureB, leaf, leafN, List.all_cons, List.all_nil, List.nil_append, List.append_nil, Bool.and_false]
    | (refine drW_intro (by kernel_rfl) ?_)
    | (refine gw_intro (fun h => ?_) (fun h => ?_) <;> (try simp only [beq_true, beq_false, Bool.not_eq_eq_eq_not, Bool.not_true, Bool.not_false, Bool.not_not, decide_eq_true_eq, decide_eq_false_iff_not, ge_iff_le, gt_iff_lt] at h)))
                        refine hx _ _ ?_
                        repeat' (first
    | simp only [*, go_seq, go_retc, go_xblk, go_region, go_ops_nil, go_ops, okG_some, guardG, opG, inB, sval, stake, eats, eaters, get, St.taken, put_slot, put_room, put_box, dem_slot, dem_box, dem_room, endQ, endR, endV, rvars, rvar, room1, ↓reduceIte, Nat.reduceEqDiff, Nat.reduceLT, decide_true, List.filterMap_cons, List.filterMap_nil, List.contains_cons, List.contains_nil, List.map_cons, List.map_nil, beq_self_eq_true, Bool.or_false, Bool.or_true, Nat.reduceBEq, Bool.false_eq_true, row9, frz9, frzOf_def, frz_nil, pureB, leaf, leafN, List.take_nil, List.range_zero, Bool.and_false, and_self]
    | (refine drW_intro (by kernel_rfl) ?_)
    | (refine gw_intro (fun h => ?_) (fun h => ?_) <;> (try simp only [beq_true, beq_false, Bool.not_eq_eq_eq_not, Bool.not_true, Bool.not_false, Bool.not_not, decide_eq_true_eq, decide_eq_false_iff_not, ge_iff_le, gt_iff_lt] at h))))
        · obtain ⟨w, hw⟩ : ∃ w, Hid (true = w) := ⟨_, rfl⟩
          rw [hw.out] at EE z61
          rcases hm with m1 | ⟨m1, m2⟩
          · rw [m1] at k1
            clear m1 k2
            obtain ⟨m, hm⟩ : ∃ m, Hid (signB l (b1 + 1) = m) := ⟨_, rfl⟩
            have f1 := is_L h b1 101
            have f2 := is_L h b1 69
            have f3 := is_L h (b1 + 1) 43
            have f4 := is_L h (b1 + 1) 45
            have f5 := dig_at (a := m) h
            have v1 := w1 b1 (by omega)
            have v2 := w1 (b1 + 1) (by omega)
            have HS := sign_cases hm.out
            unfold expF at EE
            rw [hm.out] at EE
            clear hm
            have HC : ((isC l b1 101 = false ∧ isC l b1 69 = false) ∧ Hd ((b1, w) = digF l a0)) ∨ ((isC l b1 101 = true ∨ (isC l b1 101 = false ∧ isC l b1 69 = true)) ∧ (isC l (b1 + 1) 43 = true ∧ ((b1 + 1 + 1 : Nat) : Int) = m ∨ isC l (b1 + 1) 43 = false ∧ isC l (b1 + 1) 45 = true ∧ ((b1 + 1 + 1 : Nat) : Int) = m ∨ isC l (b1 + 1) 43 = false ∧ isC l (b1 + 1) 45 = false ∧ ((b1 + 1 : Nat) : Int) = m) ∧
                (atB dgC l m = true ∧ Hd ((drun l m, false) = digF l a0) ∨ atB dgC l m = false ∧ Hd ((b1, w) = digF l a0))) := by
              cases g1 : isC l b1 101 with
              | false =>
                cases g2 : isC l b1 69 with
                | false =>
                  rw [g1, g2, if_neg (by simp)] at EE
                  exact .inl ⟨⟨rfl, rfl⟩, EE⟩
                | true =>
                  rw [g1, g2, if_pos (by rfl)] at EE
                  refine .inr ⟨.inr ⟨rfl, rfl⟩, HS, ?_⟩
                  cases g5 : atB dgC l m with
                  | true => rw [g5, if_pos rfl] at EE; exact .inl ⟨rfl, EE⟩
                  | false => rw [g5, if_neg (by simp)] at EE; exact .inr ⟨rfl, EE⟩
              | true =>
                rw [g1, Bool.true_or, if_pos rfl] at EE
                refine .inr ⟨.inl rfl, HS, ?_⟩
                cases g5 : atB dgC l m with
                | true => rw [g5, if_pos rfl] at EE; exact .inl ⟨rfl, EE⟩
                | false => rw [g5, if_neg (by simp)] at EE; exact .inr ⟨rfl, EE⟩
            clear EE HS
            rcases HC with ⟨⟨g1, g2⟩, hE⟩ | ⟨hg, hs, hdg⟩
            · rw [g1] at f1
              rw [g2] at f2
              have e1 := (congrArg Prod.fst (show (b1, w) = digF l a0 from hE)).symm
              have e2 := (congrArg Prod.snd (show (b1, w) = digF l a0 from hE)).symm
              simp only at e1 e2
              clear h hE f3 f4 f5
              repeat' (first
    | simp only [*, go_nil, go_seq, go_cond, go_exit, go_xcode, go_region, go_ops_nil, go_ops, okG_some, cwD_bool, gw_false, guardG, opG, isPtr, inB, sval, stake, eats, eaters, get, St.taken, put_slot, dem_none, ↓reduceIte, Nat.reduceEqDiff, Nat.reduceLT, decide_true, List.filterMap_cons, List.filterMap_nil, List.contains_cons, List.contains_nil, List.map_cons, List.map_nil, Bool.or_false, Bool.and_true, Nat.reduceBEq, Bool.false_eq_true, okR, callG, row9, frz9, frzOf_def, frz_nil, pureB, leaf, leafN, List.all_cons, List.all_nil, List.nil_append, List.append_nil, Bool.and_false]
    | (refine drW_intro (by kernel_rfl) ?_)
    | (refine gw_intro (fun h => ?_) (fun h => ?_) <;> (try simp only [beq_true, beq_false, Bool.not_eq_eq_eq_not, Bool.not_true, Bool.not_false, Bool.not_not, decide_eq_true_eq, decide_eq_false_iff_not, ge_iff_le, gt_iff_lt] at h)))
              refine hx _ _ ?_
              repeat' (first
    | simp only [*, go_seq, go_cond, go_skip, go_retc, go_xblk, go_region, go_ops_nil, go_ops, okG_some, gwD_bool, cwD_bool, gw_true, gw_false, guardG, opG, isPtr, inB, sval, stake, eats, eaters, get, cval, cval1, croom, St.taken, put_slot, put_room, put_box, dem_none, dem_slot, dem_box, dem_room, setBox_slot, setBox_room, endQ, endR, endV, rvars, rvar, room1, ↓reduceIte, Nat.reduceEqDiff, Nat.reduceLT, reduceCtorEq, decide_true, List.filterMap_cons, List.filterMap_nil, Option.bind_some, List.getElem?_cons_zero, List.getElem?_cons_succ, List.contains_cons, List.contains_nil, List.map_cons, List.map_nil, beq_self_eq_true, Bool.or_false, Bool.or_true, Bool.and_true, Nat.reduceBEq, Bool.false_eq_true, dbin, dIntBin, okR, callG, row9, frz9, frzOf_def, frz_nil, beq_true, pureB, leaf, leafN, List.all_cons, List.all_nil, List.nil_append, List.append_nil, List.take_nil, List.range_zero, Bool.and_false, and_self, dStrBin]
    | (refine drW_intro (by kernel_rfl) ?_)
    | (refine gw_intro (fun h => ?_) (fun h => ?_) <;> (try simp only [beq_true, beq_false, Bool.not_eq_eq_eq_not, Bool.not_true, Bool.not_false, Bool.not_not, decide_eq_true_eq, decide_eq_false_iff_not, ge_iff_le, gt_iff_lt] at h)))
            · rcases hg with g1 | ⟨g1, g2⟩ <;> rcases hs with ⟨g3, hm⟩ | ⟨g3, g4, hm⟩ | ⟨g3, g4, hm⟩ <;> rcases hdg with ⟨g5, hE⟩ | ⟨g5, hE⟩
              all_goals
                rw [g1] at f1
                try rw [g2] at f2
                rw [g3] at f3
                try rw [g4] at f4
                first | ((have hq : b1 + 1 = m := by omega); subst hq) | ((have hq : b1 + 1 + 1 = m := by omega); subst hq)
                clear hm
                rw [g5] at f5
                try (
                  have e1 := (congrArg Prod.fst (show (b1, w) = digF l a0 from hE)).symm
                  have e2 := (congrArg Prod.snd (show (b1, w) = digF l a0 from hE)).symm
                  simp only at e1 e2
                  clear hE)
                clear g1 g3
                try clear g2
                try clear g4
                repeat' (first
    | simp only [*, go_nil, go_seq, go_cond, go_exit, go_xcode, go_region, go_ops_nil, go_ops, okG_some, cwD_bool, gw_false, guardG, opG, isPtr, inB, sval, stake, eats, eaters, get, St.taken, put_slot, dem_none, ↓reduceIte, Nat.reduceEqDiff, Nat.reduceLT, decide_true, List.filterMap_cons, List.filterMap_nil, List.contains_cons, List.contains_nil, List.map_cons, List.map_nil, Bool.or_false, Bool.and_true, Nat.reduceBEq, Bool.false_eq_true, okR, callG, row9, frz9, frzOf_def, frz_nil, pureB, leaf, leafN, List.all_cons, List.all_nil, List.nil_append, List.append_nil, Bool.and_false]
    | (refine drW_intro (by kernel_rfl) ?_)
    | (refine gw_intro (fun h => ?_) (fun h => ?_) <;> (try simp only [beq_true, beq_false, Bool.not_eq_eq_eq_not, Bool.not_true, Bool.not_false, Bool.not_not, decide_eq_true_eq, decide_eq_false_iff_not, ge_iff_le, gt_iff_lt] at h)))
                refine hx _ _ ?_
                repeat' (first
    | simp only [*, go_seq, go_cond, go_block, go_skip, go_retc, go_xblk, go_loop, go_region, go_ops_nil, go_ops, okG_some, gwD_bool, cwD_bool, gw_true, gw_false, guardG, opG, isPtr, inB, sval, stake, eats, eaters, get, cval, cval1, croom, St.taken, put_slot, put_room, put_box, dem_none, dem_slot, dem_box, dem_room, setBox_slot, setBox_room, endQ, endR, endV, rvars, rvar, room1, ↓reduceIte, Nat.reduceEqDiff, Nat.reduceLT, reduceCtorEq, decide_true, List.filterMap_cons, List.filterMap_nil, Option.bind_some, Option.map_some, List.getElem?_cons_zero, List.getElem?_cons_succ, List.contains_cons, List.contains_nil, List.map_cons, List.map_nil, beq_self_eq_true, Bool.or_false, Bool.or_true, Bool.and_true, Nat.reduceBEq, Bool.false_eq_true, dbin, dIntBin, okR, callG, row9, frz9, frzOf_def, frz_nil, beq_true, beq_false, Bool.not_true, pureB, leaf, leafN, List.all_cons, List.all_nil, List.nil_append, List.append_nil, List.take_nil, List.range_zero, Bool.and_false, and_self, dStrBin]
    | (refine drW_intro (by kernel_rfl) ?_)
    | (refine gw_intro (fun h => ?_) (fun h => ?_) <;> (try simp only [beq_true, beq_false, Bool.not_eq_eq_eq_not, Bool.not_true, Bool.not_false, Bool.not_not, decide_eq_true_eq, decide_eq_false_iff_not, ge_iff_le, gt_iff_lt] at h)))
                try (
                  have hml := Nat.le_of_lt (atB_lt g5)
                  clear hx g5
                  refine loopH (fun st => ∃ b : Nat, b ≤ l.length ∧ st.slot 0 = LI l ∧ st.slot 1 = .int .i64 b ∧ st.room 1 = [] ∧ st.slot 6 = .bool false ∧ st.room 6 = [] ∧ Hd (((drun l b), false) = digF l a0)) (fun st => l.length - slotI st 1) ?_ ?_
                  · refine ⟨_, hml, ?_, ?_, ?_, ?_, ?_, hE⟩ <;> first | (simp only [*, put_slot, put_room, dem_slot, dem_room, ↓reduceIte, Nat.reduceEqDiff, reduceCtorEq]; done) | (simp only [*, go_nil, go_seq, go_cond, go_block, go_blk, go_skip, go_exit, go_retc, go_xcode, go_xblk, go_loop, go_region, go_draw, go_ops_nil, go_dops_nil, go_ops, go_dops1, go_dops, okG_some, okB_some, gwD_bool, gwD_undef, cwD_bool, gw_true, gw_false, guardG_none, guardG, opG, opD, isPtr, isStore, inB, sval, stake, eats, eaters, get, cval, cval1, croom, St.taken, put_slot, put_room, put_box, put_ctr, put_none, dem_none, dem_slot, dem_box, dem_ctr, dem_room, dem_room1, setBox_slot, setBox_room, setBox_ctr, setBox_box, entry_slot, entry_room, entry_box, entry_ctr, endQ, endR, endV, rvars, rvar, room1, ↓reduceIte, Nat.reduceEqDiff, Nat.reduceLT, Nat.reduceLeDiff, reduceCtorEq, decide_true, decide_false, List.filterMap_cons, List.filterMap_nil, Option.bind_some, Option.map_some, Option.bind_none, Option.map_none, List.getElem?_cons_zero, List.getElem?_cons_succ, List.getD_cons_zero, List.getD_cons_succ, List.contains_cons, List.contains_nil, List.map_cons, List.map_nil, beq_self_eq_true, beq_iff_eq, Bool.or_false, Bool.false_or, Bool.or_true, Bool.true_or, Bool.and_true, Bool.true_and, Nat.reduceBEq, Bool.false_eq_true, dbin, dIntBin, okR, callG, endN, newV, row9, frz9, frzOf_def, frz_nil, frz_cons, frzD, rowList, rowElem, stepRow, madeRow, isLocal, allocKey, isAlloc, loadsOwn, ptrAt, beq_true, beq_false, Bool.not_true, Bool.not_false, pureB, leaf, leafN, List.all_cons, List.all_nil, List.nil_append, List.cons_append, List.append_nil, List.take_nil, List.range_zero, List.length_nil, List.length_cons, String.reduceBEq, Bool.true_beq, Bool.false_beq, List.find?_cons, List.find?_nil, dun, List.getElem?_nil, List.take_zero, List.drop_zero, List.take_succ_cons, List.drop_succ_cons, dcells, Nat.zero_add, Nat.reduceAdd, Nat.reduceSub, Nat.reduceMul, stepBox, Bool.and_false, Bool.false_and, and_true, true_and, List.zipWith, Option.getD_some, List.singleton_append, List.map_map, Int.natCast_nonneg, Int.toNat_natCast, and_self, Nat.mul_one, Nat.add_zero, if_true, St.freeze, false_or, or_true, true_or, or_false, szOk_cons, szOk_nil, List.cons.injEq, false_and, and_false, forall_const, List.getElem?_toArray, List.getElem_toArray, dopt, dbound, ge_iff_le, gt_iff_lt, dStrBin, List.take_length, plainR_s, Int.reduceLE, Int.reduceLT, Int.reduceToNat, Int.reduceBEq, Int.reduceBNe, ty3, ty4, ty5, ty9, dp3, dp4, dp5, dp9, ty22, ia22, len22, ap22, sl22, bs22e, ty44, ia44, len44, ap44, sl44, bs44e, ty62, ia62, len62, ap62, sl62, bs62e, bs22, bs22_2, bs22_3, bs22_4, bs44, ty56, dp56, fa56_0, fp56_0, fa56_1, fp56_1, fa56_2, fp56_2, fa56_3, fp56_3, fa56_4, fp56_4, fa56_5, fp56_5, zr56, ty24, ia24, len24, ap24, bs24e, bs24, ty32, dp32, fa32_0, fp32_0, fa32_1, fp32_1, fa32_2, fp32_2, fa32_3, fp32_3, fa32_4, fp32_4, fa32_5, fp32_5, fa32_6, fp32_6, zr32, ty26, ia26, len26, ap26, bs26e, bs26, ty41, dp41, fa41_0, fp41_0, fa41_1, fp41_1, fa41_2, fp41_2, fa41_3, fp41_3, zr41, ty35, ia35, len35, ap35, bs35e, bs35, bd56_012, bd56_0123, bd56_01235, bd56_01, bd56_01245, bd32_24, bd32_012, bd32_, bd32_243, bd41_, bd41_0, ty51, fp51_0, fp51_1, fp51_2, bd51, dp24, ia22r, len22r, len9, ix9, sl9, cv53, cv35, cv922, cv229]; rfl)
                  · rintro st3 K3 ⟨b3, hbl3, z03, z13, zr3, z63, zq3, hv3⟩ hn hx hr
                    have hd3 := dig_at (a := b3) h
                    have hw3 := w1 b3 (by omega)
                    cases hc3 : atB dgC l b3 with
                    | true =>
                      have hlt3 := atB_lt hc3
                      have T : Hd (((drun l (b3 + 1)), false) = digF l a0) := by
                        have h1 : ((drun l b3), false) = digF l a0 := hv3
                        rw [show drun l b3 = drun l (b3 + 1) from runF_step dg_end hc3] at h1
                        exact h1
                      rw [hc3] at hd3
                      clear hv3 h
                      repeat' (first
    | simp only [*, go_nil, go_seq, go_cond, go_block, go_blk, go_skip, go_region, go_ops_nil, go_ops, okG_some, cwD_bool, gw_true, guardG, opG, isPtr, inB, sval, stake, eats, eaters, get, cval, cval1, St.taken, put_slot, put_room, dem_none, ↓reduceIte, Nat.reduceEqDiff, Nat.reduceLT, decide_true, List.filterMap_cons, List.filterMap_nil, Option.map_some, List.contains_cons, List.contains_nil, List.map_cons, List.map_nil, Bool.or_false, Bool.and_true, Nat.reduceBEq, Bool.false_eq_true, dbin, dIntBin, okR, callG, row9, frz9, frzOf_def, frz_nil, pureB, leaf, leafN, List.all_cons, List.all_nil, List.nil_append, List.append_nil, Bool.and_false]
    | (refine drW_intro (by kernel_rfl) ?_)
    | (refine gw_intro (fun h => ?_) (fun h => ?_) <;> (try simp only [beq_true, beq_false, Bool.not_eq_eq_eq_not, Bool.not_true, Bool.not_false, Bool.not_not, decide_eq_true_eq, decide_eq_false_iff_not, ge_iff_le, gt_iff_lt] at h)))
                      refine hn _ ⟨b3 + 1, hlt3, ?_, ?_, ?_, ?_, ?_, T⟩ ?_
                      · simp only [*, put_slot, dem_slot, ↓reduceIte, reduceCtorEq]
                      · simp only [*, put_slot, ↓reduceIte]
                      · simp only [*, put_room, ↓reduceIte]
                      · simp only [*, put_slot, dem_slot, ↓reduceIte, Nat.reduceEqDiff]
                      · simp only [*, put_room, dem_room, ↓reduceIte, Nat.reduceEqDiff]
                      · simp only [slotI, *, put_slot, ↓reduceIte, Int.toNat_natCast]
                        omega
                    | false =>
                      have E3 : (b3, false) = digF l a0 := by
                        have h1 : ((drun l b3), false) = digF l a0 := hv3
                        rw [show drun l b3 = b3 from runF_stop hc3] at h1
                        exact h1
                      rw [hc3] at hd3
                      clear hv3 hn hr hc3
                      clear h
                      have e1 := (congrArg Prod.fst E3).symm
                      have e2 := (congrArg Prod.snd E3).symm
                      simp only at e1 e2
                      clear E3
                      repeat' (first
    | simp only [*, go_nil, go_seq, go_cond, go_exit, go_xcode, go_region, go_ops_nil, go_ops, okG_some, cwD_bool, gw_false, guardG, opG, isPtr, inB, sval, stake, eats, eaters, get, St.taken, put_slot, dem_none, ↓reduceIte, Nat.reduceEqDiff, Nat.reduceLT, decide_true, List.filterMap_cons, List.filterMap_nil, List.contains_cons, List.contains_nil, List.map_cons, List.map_nil, Bool.or_false, Bool.and_true, Nat.reduceBEq, Bool.false_eq_true, okR, callG, row9, frz9, frzOf_def, frz_nil, pureB, leaf, leafN, List.all_cons, List.all_nil, List.nil_append, List.append_nil, Bool.and_false]
    | (refine drW_intro (by kernel_rfl) ?_)
    | (refine gw_intro (fun h => ?_) (fun h => ?_) <;> (try simp only [beq_true, beq_false, Bool.not_eq_eq_eq_not, Bool.not_true, Bool.not_false, Bool.not_not, decide_eq_true_eq, decide_eq_false_iff_not, ge_iff_le, gt_iff_lt] at h)))
                      refine hx _ _ ?_
                      repeat' (first
    | simp only [*, go_seq, go_retc, go_xblk, go_region, go_ops_nil, go_ops, okG_some, guardG, opG, inB, sval, stake, eats, eaters, get, St.taken, put_slot, put_room, put_box, dem_slot, dem_box, dem_room, endQ, endR, endV, rvars, rvar, room1, ↓reduceIte, Nat.reduceEqDiff, Nat.reduceLT, decide_true, List.filterMap_cons, List.filterMap_nil, List.contains_cons, List.contains_nil, List.map_cons, List.map_nil, beq_self_eq_true, Bool.or_false, Bool.or_true, Nat.reduceBEq, Bool.false_eq_true, row9, frz9, frzOf_def, frz_nil, pureB, leaf, leafN, List.take_nil, List.range_zero, Bool.and_false, and_self]
    | (refine drW_intro (by kernel_rfl) ?_)
    | (refine gw_intro (fun h => ?_) (fun h => ?_) <;> (try simp only [beq_true, beq_false, Bool.not_eq_eq_eq_not, Bool.not_true, Bool.not_false, Bool.not_not, decide_eq_true_eq, decide_eq_false_iff_not, ge_iff_le, gt_iff_lt] at h))))
          · rw [m1] at k1
            rw [m2] at k2
            have f1 := is_L h b1 101
            have f2 := is_L h b1 69
            have hb46 : l.getD b1 0 = 46 := by
              simp only [isC, Bool.and_eq_true, beq_iff_eq] at m1
              exact m1.2
            have g1 : isC l b1 101 = false := by unfold isC; rw [hb46]; simp
            have g2 : isC l b1 69 = false := by unfold isC; rw [hb46]; simp
            unfold expF at EE
            rw [g1, g2, if_neg (by simp)] at EE
            rw [g1] at f1
            rw [g2] at f2
            have e1 := (congrArg Prod.fst EE).symm
            have e2 := (congrArg Prod.snd EE).symm
            simp only at e1 e2
            clear h EE
            repeat' (first
    | simp only [*, go_nil, go_seq, go_cond, go_exit, go_xcode, go_region, go_ops_nil, go_ops, okG_some, cwD_bool, gw_false, guardG, opG, isPtr, inB, sval, stake, eats, eaters, get, St.taken, put_slot, dem_none, ↓reduceIte, Nat.reduceEqDiff, Nat.reduceLT, decide_true, List.filterMap_cons, List.filterMap_nil, List.contains_cons, List.contains_nil, List.map_cons, List.map_nil, Bool.or_false, Bool.and_true, Nat.reduceBEq, Bool.false_eq_true, okR, callG, row9, frz9, frzOf_def, frz_nil, pureB, leaf, leafN, List.all_cons, List.all_nil, List.nil_append, List.append_nil, Bool.and_false]
    | (refine drW_intro (by kernel_rfl) ?_)
    | (refine gw_intro (fun h => ?_) (fun h => ?_) <;> (try simp only [beq_true, beq_false, Bool.not_eq_eq_eq_not, Bool.not_true, Bool.not_false, Bool.not_not, decide_eq_true_eq, decide_eq_false_iff_not, ge_iff_le, gt_iff_lt] at h)))
            refine hx _ _ ?_
            repeat' (first
    | simp only [*, go_seq, go_cond, go_skip, go_retc, go_xblk, go_region, go_ops_nil, go_ops, okG_some, gwD_bool, cwD_bool, gw_true, gw_false, guardG, opG, isPtr, inB, sval, stake, eats, eaters, get, cval, cval1, croom, St.taken, put_slot, put_room, put_box, dem_none, dem_slot, dem_box, dem_room, setBox_slot, setBox_room, endQ, endR, endV, rvars, rvar, room1, ↓reduceIte, Nat.reduceEqDiff, Nat.reduceLT, reduceCtorEq, decide_true, List.filterMap_cons, List.filterMap_nil, Option.bind_some, Option.map_some, List.getElem?_cons_zero, List.getElem?_cons_succ, List.contains_cons, List.contains_nil, List.map_cons, List.map_nil, beq_self_eq_true, Bool.or_false, Bool.or_true, Bool.and_true, Nat.reduceBEq, Bool.false_eq_true, dbin, dIntBin, okR, callG, row9, frz9, frzOf_def, frz_nil, pureB, leaf, leafN, List.all_cons, List.all_nil, List.nil_append, List.append_nil, List.take_nil, List.range_zero, Bool.and_false, and_self, dStrBin]
    | (refine drW_intro (by kernel_rfl) ?_)
    | (refine gw_intro (fun h => ?_) (fun h => ?_) <;> (try simp only [beq_true, beq_false, Bool.not_eq_eq_eq_not, Bool.not_true, Bool.not_false, Bool.not_not, decide_eq_true_eq, decide_eq_false_iff_not, ge_iff_le, gt_iff_lt] at h)))
end Go.Av
/- Chapter 19: the document's tokenizer: rests of urls, numbers with units. -/
set_option linter.unusedSimpArgs false
set_option linter.unusedVariables false
set_option linter.unusedSectionVars false
set_option maxRecDepth 100000
namespace Go.Av
open Go.Proofs Go.Proofs.Ytaldmffahmomoaa Go.RowKit
/-- A token. -/
def tkD (k : Int) (a b : Nat) (s n : List UInt8) (w : Bool) : D := .agg [.int .i64 k, .int .i64 a, .int .i64 b, .str s, .str n, .bool w]
/-- Something that goes on from place to place. -/
def scan {A : Type} (σ : Nat → A → Option (Nat × A)) : Nat → Nat → A → Nat × A
  | 0, a, x => (a, x)
  | k + 1, a, x => match σ a x with | none => (a, x) | some (b, y) => scan σ k b y
def scanF {A : Type} (σ : Nat → A → Option (Nat × A)) (n a : Nat) (x : A) : Nat × A := scan σ (n - a) a x
structure Goes {A : Type} (σ : Nat → A → Option (Nat × A)) (n : Nat) : Prop where
  inc : ∀ a x b y, σ a x = some (b, y) → a < b ∧ a < n ∧ b ≤ n
theorem Goes.fuel {A : Type} {σ : Nat → A → Option (Nat × A)} {n : Nat} (h : Goes σ n) : ∀ (k a : Nat) (x : A), n - a ≤ k → scan σ k a x = scan σ (n - a) a x
  | 0, a, x, hk => by rw [show n - a = 0 by omega]
  | k + 1, a, x, hk => by
    cases hs : σ a x with
    | none =>
      rw [scan, hs]
      cases hj : n - a with
      | zero => rfl
      | succ j => rw [scan, hs]
    | some p =>
      obtain ⟨b, y⟩ := p
      have hi := h.inc _ _ _ _ hs
      rw [show n - a = (n - (a + 1)) + 1 by omega, scan, scan, hs]
      simp only
      rw [h.fuel k b y (by omega), h.fuel (n - (a + 1)) b y (by omega)]
  termination_by k a _ _ => (k, n - a)
theorem Goes.step {A : Type} {σ : Nat → A → Option (Nat × A)} {n a b : Nat} {x y : A} (h : Goes σ n) (hs : σ a x = some (b, y)) : scanF σ n a x = scanF σ n b y := by
  have hi := h.inc _ _ _ _ hs
  unfold scanF
  rw [show n - a = (n - (a + 1)) + 1 by omega, scan, hs]
  exact h.fuel _ _ _ (by omega)
theorem scan_stop {A : Type} {σ : Nat → A → Option (Nat × A)} {n a : Nat} {x : A} (hs : σ a x = none) : scanF σ n a x = (a, x) := by
  unfold scanF
  cases hj : n - a with
  | zero => rfl
  | succ j => rw [scan, hs]
theorem Goes.pos {A : Type} {σ : Nat → A → Option (Nat × A)} {n : Nat} (h : Goes σ n) : ∀ (k a : Nat) (x : A), a ≤ (scan σ k a x).1 ∧ (a ≤ n → (scan σ k a x).1 ≤ n)
  | 0, a, x => by simp [scan]
  | k + 1, a, x => by
    unfold scan
    cases hs : σ a x with
    | none => simp
    | some p =>
      obtain ⟨b, y⟩ := p
      have hi := h.inc _ _ _ _ hs
      have := h.pos k b y
      simp only
      omega
def restS (l : List Int) (a : Nat) (_ : Unit) : Option (Nat × Unit) :=
  if a < l.length ∧ l.getD a 0 ≠ 41 then (if escB l a then some ((valF l a).2, ()) else some (a + 1, ())) else none
theorem rest_goes (l : List Int) : Goes (restS l) l.length := ⟨fun a x b y h => by
  unfold restS at h
  split at h
  · rename_i h1
    have hv := val_pos h1.1
    split at h <;> (injection h with h; injection h with h; omega)
  · cases h⟩
def restE (l : List Int) (a : Nat) : Nat := (scanF (restS l) l.length a ()).1
def restF (l : List Int) (a : Nat) : Nat := if restE l a < l.length then restE l a + 1 else restE l a
theorem restF_pos {l : List Int} {a : Nat} (h : a ≤ l.length) : a ≤ restF l a ∧ restF l a ≤ l.length := by
  have := (rest_goes l).pos (l.length - a) a ()
  unfold restF restE scanF
  split <;> omega
set_option maxHeartbeats 4000000 in
theorem rest_L {l : List Int} (h : CL l) (fr a0 : Nat) (ha0 : a0 ≤ l.length) : callL Try.prog ext9 79 [LI l, .int .i64 fr, .int .i64 a0] [] = some (tkD 8 fr (restF l a0) [] [] false, [.no], []) := by
  have hl := h.len
  have lN := LIlen l
  unfold tkD
  refine callK (m := 44) (res := []) (rs := [.cell 6 56]) rfl Try.func79 rfl rfl rfl rfl rfl ?_
  repeat' (first
    | simp only [*, go_seq, go_block, go_loop, go_region, go_ops_nil, go_ops, okB_some, guardG, opG, inB, eats, eaters, setBox_slot, setBox_room, entry_ctr, ↓reduceIte, Nat.reduceLT, decide_true, List.filterMap_cons, List.filterMap_nil, List.contains_nil, Bool.and_true, Bool.false_eq_true, row9, frz9, frzOf_def, frz_nil, leaf, leafN, List.all_cons, List.all_nil, List.length_nil, Nat.reduceAdd, stepBox, and_self, zr56]
    | (refine drW_intro (by kernel_rfl) ?_)
    | (refine gw_intro (fun h => ?_) (fun h => ?_) <;> (try simp only [beq_true, beq_false, Bool.not_eq_eq_eq_not, Bool.not_true, Bool.not_false, Bool.not_not, decide_eq_true_eq, decide_eq_false_iff_not, ge_iff_le, gt_iff_lt] at h)))
  refine loopH (fun st => ∃ a : Nat, a ≤ l.length ∧ st.slot 0 = LI l ∧ st.slot 1 = .int .i64 fr ∧ st.slot 2 = .int .i64 a ∧ st.slot 6 = .ptr 6 1 0 ∧ st.box 6 = some ⟨1, [.int .i64 0, .int .i64 0, .int .i64 0, .str [], .str [], .bool false]⟩ ∧ Hd (restE l a = restE l a0)) (fun st => l.length - slotI st 2) ?_ ?_
  · refine ⟨a0, ha0, ?_, ?_, ?_, ?_, ?_, rfl⟩ <;> first | (simp only [*, put_slot, put_box, setBox_box, entry_slot, ↓reduceIte, Nat.reduceEqDiff, reduceCtorEq, List.getD_cons_zero, List.getD_cons_succ]; done) | (simp only [*, go_nil, go_seq, go_cond, go_block, go_blk, go_skip, go_exit, go_retc, go_xcode, go_xblk, go_loop, go_region, go_draw, go_ops_nil, go_dops_nil, go_ops, go_dops1, go_dops, okG_some, okB_some, gwD_bool, gwD_undef, cwD_bool, gw_true, gw_false, guardG_none, guardG, opG, opD, isPtr, isStore, inB, sval, stake, eats, eaters, get, cval, cval1, croom, St.taken, put_slot, put_room, put_box, put_ctr, put_none, dem_none, dem_slot, dem_box, dem_ctr, dem_room, dem_room1, setBox_slot, setBox_room, setBox_ctr, setBox_box, entry_slot, entry_room, entry_box, entry_ctr, endQ, endR, endV, rvars, rvar, room1, ↓reduceIte, Nat.reduceEqDiff, Nat.reduceLT, Nat.reduceLeDiff, reduceCtorEq, decide_true, decide_false, List.filterMap_cons, List.filterMap_nil, Option.bind_some, Option.map_some, Option.bind_none, Option.map_none, List.getElem?_cons_zero, List.getElem?_cons_succ, List.getD_cons_zero, List.getD_cons_succ, List.contains_cons, List.contains_nil, List.map_cons, List.map_nil, beq_self_eq_true, beq_iff_eq, Bool.or_false, Bool.false_or, Bool.or_true, Bool.true_or, Bool.and_true, Bool.true_and, Nat.reduceBEq, Bool.false_eq_true, dbin, dIntBin, okR, callG, endN, newV, row9, frz9, frzOf_def, frz_nil, frz_cons, frzD, rowList, rowElem, stepRow, madeRow, isLocal, allocKey, isAlloc, loadsOwn, ptrAt, beq_true, beq_false, Bool.not_true, Bool.not_false, pureB, leaf, leafN, List.all_cons, List.all_nil, List.nil_append, List.cons_append, List.append_nil, List.take_nil, List.range_zero, List.length_nil, List.length_cons, String.reduceBEq, Bool.true_beq, Bool.false_beq, List.find?_cons, List.find?_nil, dun, List.getElem?_nil, List.take_zero, List.drop_zero, List.take_succ_cons, List.drop_succ_cons, dcells, Nat.zero_add, Nat.reduceAdd, Nat.reduceSub, Nat.reduceMul, stepBox, Bool.and_false, Bool.false_and, and_true, true_and, List.zipWith, Option.getD_some, List.singleton_append, List.map_map, Int.natCast_nonneg, Int.toNat_natCast, and_self, Nat.mul_one, Nat.add_zero, if_true, St.freeze, false_or, or_true, true_or, or_false, szOk_cons, szOk_nil, List.cons.injEq, false_and, and_false, forall_const, List.getElem?_toArray, List.getElem_toArray, dopt, dbound, ge_iff_le, gt_iff_lt, dStrBin, List.take_length, plainR_s, Int.reduceLE, Int.reduceLT, Int.reduceToNat, Int.reduceBEq, Int.reduceBNe, ty3, ty4, ty5, ty9, dp3, dp4, dp5, dp9, ty22, ia22, len22, ap22, sl22, bs22e, ty44, ia44, len44, ap44, sl44, bs44e, ty62, ia62, len62, ap62, sl62, bs62e, bs22, bs22_2, bs22_3, bs22_4, bs44, ty56, dp56, fa56_0, fp56_0, fa56_1, fp56_1, fa56_2, fp56_2, fa56_3, fp56_3, fa56_4, fp56_4, fa56_5, fp56_5, zr56, ty24, ia24, len24, ap24, bs24e, bs24, ty32, dp32, fa32_0, fp32_0, fa32_1, fp32_1, fa32_2, fp32_2, fa32_3, fp32_3, fa32_4, fp32_4, fa32_5, fp32_5, fa32_6, fp32_6, zr32, ty26, ia26, len26, ap26, bs26e, bs26, ty41, dp41, fa41_0, fp41_0, fa41_1, fp41_1, fa41_2, fp41_2, fa41_3, fp41_3, zr41, ty35, ia35, len35, ap35, bs35e, bs35, bd56_012, bd56_0123, bd56_01235, bd56_01, bd56_01245, bd32_24, bd32_012, bd32_, bd32_243, bd41_, bd41_0, ty51, fp51_0, fp51_1, fp51_2, bd51, dp24, ia22r, len22r, len9, ix9, sl9, cv53, cv35, cv922, cv229]; rfl)
  · rintro st K ⟨a, hal, h0, h1, h2, h6, hbx, hinv⟩ hn hx hr
    have hw := w1 a (by omega)
    have hE := esc_L h a (by omega)
    by_cases hgo : a < l.length ∧ l.getD a 0 ≠ 41
    · obtain ⟨g1, g2⟩ := hgo
      obtain ⟨d1, d2, d3⟩ := h.at g1
      have g1' : (a : Int) < l.length := by omega
      have g2' : (l.getD a 0 != 41) = true := by rw [bne_iff_ne]; exact g2
      have hV := val_L h a (by omega)
      have hvp := val_pos g1
      have hs : restS l a () = if escB l a then some ((valF l a).2, ()) else some (a + 1, ()) := by unfold restS; rw [if_pos ⟨g1, g2⟩]
      cases he : escB l a with
      | true =>
        rw [he, if_pos rfl] at hs
        have T : Hd (restE l (valF l a).2 = restE l a0) := by
          have h1 : restE l a = restE l a0 := hinv
          unfold restE at h1 ⊢
          rw [(rest_goes l).step hs] at h1
          exact h1
        rw [he] at hE
        obtain ⟨v1, v2⟩ := hvp
        clear hinv hs h g2
        generalize (valF l a).2 = b at *
        generalize l.getD a 0 = x at *
        repeat' (first
    | simp only [*, go_nil, go_seq, go_cond, go_block, go_blk, go_skip, go_region, go_ops_nil, go_ops, okG_some, gwD_bool, cwD_bool, gw_true, guardG, opG, isPtr, inB, sval, stake, eats, eaters, get, cval, cval1, croom, St.taken, put_slot, put_room, dem_none, dem_slot, dem_room1, ↓reduceIte, Nat.reduceEqDiff, Nat.reduceLT, reduceCtorEq, decide_true, List.filterMap_cons, List.filterMap_nil, Option.bind_some, Option.map_some, List.getElem?_cons_zero, List.getElem?_cons_succ, List.contains_cons, List.contains_nil, List.map_cons, List.map_nil, beq_self_eq_true, Bool.or_false, Bool.or_true, Bool.and_true, Nat.reduceBEq, Bool.false_eq_true, dbin, dIntBin, okR, callG, row9, frz9, frzOf_def, frz_nil, pureB, leaf, leafN, List.all_cons, List.all_nil, List.nil_append, List.append_nil, List.length_nil, List.length_cons, dcells, Nat.zero_add, Bool.and_false, Int.natCast_nonneg, Int.toNat_natCast, and_self, dStrBin, dp3, ia44, len44]
    | (refine drW_intro (by kernel_rfl) ?_)
    | (refine gw_intro (fun h => ?_) (fun h => ?_) <;> (try simp only [beq_true, beq_false, Bool.not_eq_eq_eq_not, Bool.not_true, Bool.not_false, Bool.not_not, decide_eq_true_eq, decide_eq_false_iff_not, ge_iff_le, gt_iff_lt] at h)))
        refine hn _ ⟨b, v2, ?_, ?_, ?_, ?_, ?_, T⟩ ?_
        · simp only [*, put_slot, dem_slot, ↓reduceIte, reduceCtorEq]
        · simp only [*, put_slot, dem_slot, ↓reduceIte, Nat.reduceEqDiff]
        · simp only [*, put_slot, ↓reduceIte]
        · simp only [*, put_slot, dem_slot, ↓reduceIte, Nat.reduceEqDiff]
        · simp only [*, put_box, dem_box]
        · simp only [slotI, *, put_slot, ↓reduceIte, Int.toNat_natCast]
          omega
      | false =>
        rw [he, if_neg (by simp)] at hs
        have T : Hd (restE l (a + 1) = restE l a0) := by
          have h1 : restE l a = restE l a0 := hinv
          unfold restE at h1 ⊢
          rw [(rest_goes l).step hs] at h1
          exact h1
        rw [he] at hE
        clear hinv hs h g2
        generalize l.getD a 0 = x at *
        repeat' (first
    | simp only [*, go_nil, go_seq, go_cond, go_block, go_blk, go_skip, go_region, go_ops_nil, go_ops, okG_some, gwD_bool, cwD_bool, gw_true, gw_false, guardG, opG, isPtr, inB, sval, stake, eats, eaters, get, cval, cval1, croom, St.taken, put_slot, put_room, dem_none, ↓reduceIte, Nat.reduceEqDiff, Nat.reduceLT, reduceCtorEq, decide_true, List.filterMap_cons, List.filterMap_nil, Option.bind_some, Option.map_some, List.getElem?_cons_zero, List.getElem?_cons_succ, List.contains_nil, List.map_cons, List.map_nil, beq_self_eq_true, Bool.and_true, Nat.reduceBEq, Bool.false_eq_true, dbin, dIntBin, okR, callG, row9, frz9, frzOf_def, frz_nil, pureB, leaf, leafN, List.all_cons, List.all_nil, List.nil_append, List.append_nil, List.length_nil, List.length_cons, dcells, Nat.zero_add, Bool.and_false, Int.natCast_nonneg, Int.toNat_natCast, and_self, dStrBin, dp3, ia44, len44]
    | (refine drW_intro (by kernel_rfl) ?_)
    | (refine gw_intro (fun h => ?_) (fun h => ?_) <;> (try simp only [beq_true, beq_false, Bool.not_eq_eq_eq_not, Bool.not_true, Bool.not_false, Bool.not_not, decide_eq_true_eq, decide_eq_false_iff_not, ge_iff_le, gt_iff_lt] at h)))
        refine hn _ ⟨a + 1, g1, ?_, ?_, ?_, ?_, ?_, T⟩ ?_
        · simp only [*, put_slot, dem_slot, ↓reduceIte, reduceCtorEq]
        · simp only [*, put_slot, dem_slot, ↓reduceIte, Nat.reduceEqDiff]
        · simp only [*, put_slot, ↓reduceIte]
        · simp only [*, put_slot, dem_slot, ↓reduceIte, Nat.reduceEqDiff]
        · simp only [*, put_box, dem_box]
        · simp only [slotI, *, put_slot, ↓reduceIte, Int.toNat_natCast]
          omega
    · have hend : restE l a = a := by unfold restE; rw [scan_stop (by unfold restS; rw [if_neg hgo])]
      have hinv' : restE l a = restE l a0 := hinv
      rw [hend] at hinv'
      have hF : restF l a0 = if a < l.length then a + 1 else a := by unfold restF; rw [← hinv']
      rw [hF] at hx hr
      clear hinv hinv' hF hend hE
      by_cases g1 : a < l.length
      · obtain ⟨d1, d2, d3⟩ := h.at g1
        have g1' : (a : Int) < l.length := by omega
        have g2' : (l.getD a 0 != 41) = false := by
          rw [bne_eq_false_iff_eq]
          apply Classical.byContradiction
          intro hh
          exact hgo ⟨g1, hh⟩
        have g3' : ¬ ((a + 1 : Nat) : Int) > l.length := by omega
        rw [if_pos g1] at hx hr
        clear hgo g1 h
        generalize l.getD a 0 = x at *
        repeat' (first
    | simp only [*, go_nil, go_seq, go_cond, go_exit, go_xcode, go_region, go_ops_nil, go_ops, okG_some, gwD_bool, cwD_bool, gw_true, gw_false, guardG, opG, isPtr, inB, sval, stake, eats, eaters, get, cval, cval1, croom, St.taken, put_slot, put_room, dem_none, ↓reduceIte, Nat.reduceEqDiff, Nat.reduceLT, reduceCtorEq, decide_true, List.filterMap_cons, List.filterMap_nil, Option.bind_some, Option.map_some, List.getElem?_cons_zero, List.getElem?_cons_succ, List.contains_nil, List.map_cons, List.map_nil, beq_self_eq_true, Nat.reduceBEq, Bool.false_eq_true, dbin, dIntBin, row9, frz9, frzOf_def, frz_nil, List.length_nil, List.length_cons, dcells, Nat.zero_add, Bool.and_false, Int.natCast_nonneg, Int.toNat_natCast, and_self, dStrBin, dp3, ia44, len44]
    | (refine drW_intro (by kernel_rfl) ?_)
    | (refine gw_intro (fun h => ?_) (fun h => ?_) <;> (try simp only [beq_true, beq_false, Bool.not_eq_eq_eq_not, Bool.not_true, Bool.not_false, Bool.not_not, decide_eq_true_eq, decide_eq_false_iff_not, ge_iff_le, gt_iff_lt] at h)))
        refine hx _ _ ?_
        repeat' (first
    | simp only [*, go_seq, go_cond, go_skip, go_retc, go_xblk, go_region, go_ops_nil, go_ops, okG_some, okB_some, cwD_bool, gw_true, gw_false, guardG, opG, isPtr, inB, sval, stake, eats, eaters, get, cval, cval1, St.taken, put_slot, put_room, put_box, put_none, dem_none, dem_slot, dem_box, setBox_slot, setBox_box, endQ, endR, endV, rvars, rvar, room1, ↓reduceIte, Nat.reduceEqDiff, Nat.reduceLT, Nat.reduceLeDiff, reduceCtorEq, decide_true, decide_false, List.filterMap_cons, List.filterMap_nil, Option.map_some, List.contains_nil, List.map_cons, List.map_nil, Bool.and_true, Nat.reduceBEq, Bool.false_eq_true, dbin, dIntBin, row9, frz9, frzOf_def, frz_nil, pureB, leaf, leafN, List.all_cons, List.all_nil, List.nil_append, List.append_nil, List.range_zero, List.length_nil, List.length_cons, List.take_zero, List.drop_zero, List.drop_succ_cons, dcells, Nat.zero_add, Nat.reduceAdd, stepBox, Bool.and_false, and_self, gt_iff_lt, len44, ty56, dp56, bd56_012]
    | (refine drW_intro (by kernel_rfl) ?_)
    | (refine gw_intro (fun h => ?_) (fun h => ?_) <;> (try simp only [beq_true, beq_false, Bool.not_eq_eq_eq_not, Bool.not_true, Bool.not_false, Bool.not_not, decide_eq_true_eq, decide_eq_false_iff_not, ge_iff_le, gt_iff_lt] at h)))
      · have g1' : ¬ (a : Int) < l.length := by omega
        have g3' : ¬ ((a : Nat) : Int) > l.length := by omega
        rw [if_neg g1] at hx hr
        clear hgo g1 h
        repeat' (first
    | simp only [*, go_nil, go_seq, go_cond, go_exit, go_xcode, go_region, go_ops_nil, go_ops, okG_some, gwD_bool, cwD_bool, gw_false, guardG, opG, isPtr, inB, sval, stake, eats, eaters, get, cval, cval1, croom, St.taken, put_slot, put_room, dem_none, ↓reduceIte, Nat.reduceEqDiff, Nat.reduceLT, reduceCtorEq, decide_true, decide_false, List.filterMap_cons, List.filterMap_nil, Option.bind_some, Option.map_some, List.getElem?_cons_zero, List.getElem?_cons_succ, List.contains_nil, List.map_cons, List.map_nil, Nat.reduceBEq, Bool.false_eq_true, dbin, dIntBin, row9, frz9, frzOf_def, frz_nil, beq_true, dcells, Bool.and_false, dStrBin, len44]
    | (refine drW_intro (by kernel_rfl) ?_)
    | (refine gw_intro (fun h => ?_) (fun h => ?_) <;> (try simp only [beq_true, beq_false, Bool.not_eq_eq_eq_not, Bool.not_true, Bool.not_false, Bool.not_not, decide_eq_true_eq, decide_eq_false_iff_not, ge_iff_le, gt_iff_lt] at h)))
        refine hx _ _ ?_
        repeat' (first
    | simp only [*, go_seq, go_cond, go_skip, go_retc, go_xblk, go_region, go_ops_nil, go_ops, okG_some, okB_some, cwD_bool, gw_false, guardG, opG, isPtr, inB, sval, stake, eats, eaters, get, cval, cval1, St.taken, put_slot, put_box, put_none, dem_none, setBox_slot, setBox_box, endQ, endR, endV, rvars, rvar, room1, ↓reduceIte, Nat.reduceEqDiff, Nat.reduceLT, Nat.reduceLeDiff, reduceCtorEq, decide_true, decide_false, List.filterMap_cons, List.filterMap_nil, Option.map_some, List.contains_nil, List.map_cons, List.map_nil, Bool.and_true, Nat.reduceBEq, Bool.false_eq_true, dbin, dIntBin, row9, frz9, frzOf_def, frz_nil, pureB, leaf, leafN, List.all_cons, List.all_nil, List.nil_append, List.append_nil, List.range_zero, List.length_nil, List.length_cons, List.take_zero, List.drop_zero, List.drop_succ_cons, dcells, Nat.zero_add, Nat.reduceAdd, stepBox, Bool.and_false, and_self, gt_iff_lt, len44, ty56, dp56, bd56_012]
    | (refine drW_intro (by kernel_rfl) ?_)
    | (refine gw_intro (fun h => ?_) (fun h => ?_) <;> (try simp only [beq_true, beq_false, Bool.not_eq_eq_eq_not, Bool.not_true, Bool.not_false, Bool.not_not, decide_eq_true_eq, decide_eq_false_iff_not, ge_iff_le, gt_iff_lt] at h)))
def hidC (c : Int) : Bool := decide (c ≤ 8) || c == 11 || (decide (14 ≤ c) && decide (c ≤ 31)) || c == 127
theorem hid_L (c : Int) : callL Try.prog ext9 78 [.int .i64 c] [] = some (.bool (hidC c), [.no], []) := by
  refine callK (m := 21) (res := [2]) (rs := [.tmp 2]) rfl Try.func78 rfl rfl rfl rfl rfl ?_
  unfold hidC
  repeat' (first
    | simp only [*, go_seq, go_retc, go_region, go_ops_nil, go_ops, okG_some, gwD_bool, gwD_undef, gw_true, gw_false, guardG, opG, inB, sval, stake, eats, eaters, get, cval, cval1, croom, St.taken, put_slot, put_room, put_box, dem_none, dem_box, entry_slot, entry_room, entry_box, endQ, endR, endV, rvars, rvar, room1, ↓reduceIte, Nat.reduceEqDiff, Nat.reduceLT, reduceCtorEq, decide_true, decide_false, List.filterMap_cons, List.filterMap_nil, Option.bind_some, Option.map_some, List.getElem?_cons_zero, List.getElem?_cons_succ, List.getD_cons_zero, List.contains_cons, List.contains_nil, List.map_nil, beq_self_eq_true, Bool.or_false, Bool.false_or, Bool.true_or, Bool.true_and, Nat.reduceBEq, Bool.false_eq_true, dbin, dIntBin, row9, frz9, frzOf_def, frz_nil, beq_true, beq_false, Bool.not_true, pureB, leaf, leafN, List.take_nil, List.range_zero, List.length_nil, List.getElem?_nil, Bool.and_false, Bool.false_and, and_self, ge_iff_le, dStrBin]
    | (refine drW_intro (by kernel_rfl) ?_)
    | (refine gw_intro (fun h => ?_) (fun h => ?_) <;> (try simp only [Bool.not_eq_eq_eq_not, Bool.not_true, Bool.not_false, decide_eq_true_eq, decide_eq_false_iff_not] at h)))
  all_goals simp_all
structure Tk where
  kind : Int
  fr : Nat
  to : Nat
  text : List UInt8
  num : List UInt8
  whole : Bool
def Tk.d (t : Tk) : D := tkD t.kind t.fr t.to t.text t.num t.whole
def numericF (l : List Int) (a : Nat) : Tk :=
  let p := digF l a
  let n := textS ((l.take p.1).drop a)
  if nameB l p.1 then ⟨12, a, (namesF l p.1).2, textS (namesF l p.1).1, n, p.2⟩ else if isC l p.1 37 then ⟨11, a, p.1 + 1, [], n, p.2⟩ else ⟨10, a, p.1, [], n, p.2⟩
theorem CL.part {l : List Int} (h : CL l) (a b : Nat) : CL ((l.take b).drop a) := ⟨fun c hc => h.rng c (List.mem_of_mem_take (List.mem_of_mem_drop hc)), by have := h.len; simp; omega⟩
set_option maxHeartbeats 4000000 in
theorem numeric_L {l : List Int} (h : CL l) (a : Nat) (ha : a ≤ l.length) : callL Try.prog ext9 52 [LI l, .int .i64 a] [] = some ((numericF l a).d, [.no], []) := by
  have hl := h.len
  have lN := LIlen l
  have hD := digits_L h a ha
  obtain ⟨hp1, hp2⟩ := digF_pos ha
  have hN := name_L h (digF l a).1 (by omega)
  have hM := names_L h (digF l a).1 hp2
  have hP := is_L h (digF l a).1 37
  have hT := text_L (h.part a (digF l a).1)
  have hw := w1 (digF l a).1 (by omega)
  have hsz := szI64 l
  have hdt : ((l.map (D.int .i64)).take (digF l a).1).drop a = ((l.take (digF l a).1).drop a).map (D.int .i64) := by rw [List.map_drop, List.map_take]
  have b1 : ((a : Nat) : Int) ≤ (digF l a).1 := by omega
  have b2 : (((digF l a).1 : Nat) : Int) ≤ l.length := by omega
  refine callK (m := 43) (res := []) (rs := [.cell 4 56]) rfl Try.func52 rfl rfl rfl rfl rfl ?_
  cases h1 : nameB l (digF l a).1 with
  | true =>
    have hF : numericF l a = ⟨12, a, (namesF l (digF l a).1).2, textS (namesF l (digF l a).1).1, textS ((l.take (digF l a).1).drop a), (digF l a).2⟩ := by unfold numericF; simp only [h1, if_true]
    rw [hF]
    rw [h1] at hN
    unfold Tk.d tkD
    clear hF h1
    generalize textS (namesF l (digF l a).1).1 = s at *
    generalize (namesF l (digF l a).1).2 = e at *
    generalize (digF l a).1 = b at *
    generalize (digF l a).2 = w at *
    generalize textS ((l.take b).drop a) = n at *
    generalize (l.take b).drop a = part at *
    clear h
    repeat' (first
    | simp only [*, go_seq, go_cond, go_retc, go_region, go_ops_nil, go_ops, okG_some, okB_some, cwD_bool, gw_true, guardG, opG, isPtr, inB, sval, stake, eats, eaters, get, cval, cval1, St.taken, put_slot, put_room, put_box, put_ctr, put_none, dem_none, dem_slot, dem_box, dem_ctr, dem_room, dem_room1, setBox_slot, setBox_room, setBox_box, entry_slot, entry_box, entry_ctr, endQ, endR, endV, rvars, rvar, room1, ↓reduceIte, Nat.reduceEqDiff, Nat.reduceLT, Nat.reduceLeDiff, reduceCtorEq, decide_true, List.filterMap_cons, List.filterMap_nil, Option.bind_some, Option.map_some, Option.map_none, List.getElem?_cons_zero, List.getElem?_cons_succ, List.getD_cons_zero, List.getD_cons_succ, List.contains_cons, List.contains_nil, List.map_cons, List.map_nil, beq_self_eq_true, Bool.or_false, Bool.or_true, Bool.and_true, Nat.reduceBEq, Bool.false_eq_true, okR, callG, row9, frz9, frzOf_def, frz_nil, pureB, leaf, leafN, List.all_cons, List.all_nil, List.nil_append, List.cons_append, List.append_nil, List.range_zero, List.length_nil, List.length_cons, List.getElem?_nil, List.take_zero, List.drop_zero, List.take_succ_cons, List.drop_succ_cons, dcells, Nat.zero_add, Nat.reduceAdd, stepBox, Bool.and_false, true_and, Int.natCast_nonneg, Int.toNat_natCast, and_self, Nat.add_zero, dopt, dbound, ty3, ty9, sl44, ty56, dp56, fp56_0, fp56_2, fp56_3, zr56, bd56_01245]
    | (refine drW_intro (by kernel_rfl) ?_)
    | (refine gw_intro (fun h => ?_) (fun h => ?_) <;> (try simp only [beq_true, beq_false, Bool.not_eq_eq_eq_not, Bool.not_true, Bool.not_false, Bool.not_not, decide_eq_true_eq, decide_eq_false_iff_not, ge_iff_le, gt_iff_lt] at h)))
  | false =>
    rw [h1] at hN
    cases h2 : isC l (digF l a).1 37 with
    | true =>
      have hF : numericF l a = ⟨11, a, (digF l a).1 + 1, [], textS ((l.take (digF l a).1).drop a), (digF l a).2⟩ := by unfold numericF; simp only [h1, h2, if_true, if_false, Bool.false_eq_true]
      rw [hF]
      rw [h2] at hP
      unfold Tk.d tkD
      clear hF h1 h2 hM h
      generalize (digF l a).1 = b at *
      generalize (digF l a).2 = w at *
      generalize textS ((l.take b).drop a) = n at *
      generalize (l.take b).drop a = part at *
      repeat' (first
    | simp only [*, go_seq, go_cond, go_retc, go_region, go_ops_nil, go_ops, okG_some, okB_some, cwD_bool, gw_true, gw_false, guardG, opG, isPtr, inB, sval, stake, eats, eaters, get, cval, cval1, St.taken, put_slot, put_room, put_box, put_ctr, put_none, dem_none, dem_slot, dem_box, dem_ctr, dem_room, dem_room1, setBox_slot, setBox_room, setBox_box, entry_slot, entry_box, entry_ctr, endQ, endR, endV, rvars, rvar, room1, ↓reduceIte, Nat.reduceEqDiff, Nat.reduceLT, Nat.reduceLeDiff, reduceCtorEq, decide_true, List.filterMap_cons, List.filterMap_nil, Option.bind_some, Option.map_some, Option.map_none, List.getElem?_cons_zero, List.getElem?_cons_succ, List.getD_cons_zero, List.getD_cons_succ, List.contains_cons, List.contains_nil, List.map_cons, List.map_nil, beq_self_eq_true, Bool.or_false, Bool.or_true, Bool.and_true, Nat.reduceBEq, Bool.false_eq_true, dbin, dIntBin, okR, callG, row9, frz9, frzOf_def, frz_nil, pureB, leaf, leafN, List.all_cons, List.all_nil, List.nil_append, List.cons_append, List.append_nil, List.range_zero, List.length_nil, List.length_cons, List.getElem?_nil, List.take_zero, List.drop_zero, List.take_succ_cons, List.drop_succ_cons, dcells, Nat.zero_add, Nat.reduceAdd, stepBox, Bool.and_false, true_and, Int.natCast_nonneg, Int.toNat_natCast, and_self, Nat.add_zero, dopt, dbound, ty3, sl44, ty56, dp56, fp56_0, fp56_2, zr56, bd56_01245]
    | (refine drW_intro (by kernel_rfl) ?_)
    | (refine gw_intro (fun h => ?_) (fun h => ?_) <;> (try simp only [beq_true, beq_false, Bool.not_eq_eq_eq_not, Bool.not_true, Bool.not_false, Bool.not_not, decide_eq_true_eq, decide_eq_false_iff_not, ge_iff_le, gt_iff_lt] at h)))
    | false =>
      have hF : numericF l a = ⟨10, a, (digF l a).1, [], textS ((l.take (digF l a).1).drop a), (digF l a).2⟩ := by unfold numericF; simp only [h1, h2, if_false, Bool.false_eq_true]
      rw [hF]
      rw [h2] at hP
      unfold Tk.d tkD
      clear hF h1 h2 hM h
      generalize (digF l a).1 = b at *
      generalize (digF l a).2 = w at *
      generalize textS ((l.take b).drop a) = n at *
      generalize (l.take b).drop a = part at *
      repeat' (first
    | simp only [*, go_seq, go_cond, go_skip, go_retc, go_region, go_ops_nil, go_ops, okG_some, okB_some, cwD_bool, gw_false, guardG, opG, isPtr, inB, sval, stake, eats, eaters, get, cval, cval1, St.taken, put_slot, put_room, put_box, put_ctr, put_none, dem_none, dem_slot, dem_box, dem_ctr, dem_room, dem_room1, setBox_slot, setBox_room, setBox_box, entry_slot, entry_box, entry_ctr, endQ, endR, endV, rvars, rvar, room1, ↓reduceIte, Nat.reduceEqDiff, Nat.reduceLT, Nat.reduceLeDiff, reduceCtorEq, decide_true, List.filterMap_cons, List.filterMap_nil, Option.bind_some, Option.map_some, Option.map_none, List.getElem?_cons_zero, List.getElem?_cons_succ, List.getD_cons_zero, List.getD_cons_succ, List.contains_cons, List.contains_nil, List.map_cons, List.map_nil, beq_self_eq_true, Bool.or_false, Bool.or_true, Bool.and_true, Nat.reduceBEq, Bool.false_eq_true, okR, callG, row9, frz9, frzOf_def, frz_nil, pureB, leaf, leafN, List.all_cons, List.all_nil, List.nil_append, List.append_nil, List.range_zero, List.length_nil, List.length_cons, List.getElem?_nil, List.take_zero, List.drop_zero, List.drop_succ_cons, dcells, Nat.zero_add, Nat.reduceAdd, stepBox, Bool.and_false, true_and, Int.natCast_nonneg, Int.toNat_natCast, and_self, dopt, dbound, sl44, ty56, dp56, zr56, bd56_01245]
    | (refine drW_intro (by kernel_rfl) ?_)
    | (refine gw_intro (fun h => ?_) (fun h => ?_) <;> (try simp only [beq_true, beq_false, Bool.not_eq_eq_eq_not, Bool.not_true, Bool.not_false, Bool.not_not, decide_eq_true_eq, decide_eq_false_iff_not, ge_iff_le, gt_iff_lt] at h)))
end Go.Av
/- Chapter 19: the document's tokenizer: texts between marks. -/
set_option linter.unusedSimpArgs false
set_option linter.unusedVariables false
set_option linter.unusedSectionVars false
set_option maxRecDepth 100000
namespace Go.Av
open Go.Proofs Go.Proofs.Ytaldmffahmomoaa Go.RowKit
def quotS (l : List Int) (mark : Int) (i : Nat) (acc : List Int) : Option (Nat × List Int) :=
  if i < l.length ∧ l.getD i 0 ≠ mark ∧ l.getD i 0 ≠ 10 then
    (if l.getD i 0 ≠ 92 then some (i + 1, acc ++ [l.getD i 0]) else if i + 1 = l.length then some (i + 1, acc) else if l.getD (i + 1) 0 = 10 then some (i + 2, acc) else some ((valF l i).2, acc ++ [(valF l i).1]))
  else none
theorem quot_goes (l : List Int) (mark : Int) : Goes (quotS l mark) l.length := ⟨fun a x b y h => by
  unfold quotS at h
  split at h
  · rename_i h1
    have hv := val_pos h1.1
    split at h
    · injection h with h; injection h with h; omega
    · split at h
      · injection h with h; injection h with h; omega
      · split at h <;> (injection h with h; injection h with h; omega)
  · cases h⟩
def quotR (l : List Int) (a : Nat) : Nat × List Int := scanF (quotS l (l.getD a 0)) l.length (a + 1) []
def quotedF (l : List Int) (a : Nat) : Tk :=
  if (quotR l a).1 < l.length then (if l.getD (quotR l a).1 0 = l.getD a 0 then ⟨5, a, (quotR l a).1 + 1, textS (quotR l a).2, [], false⟩ else ⟨6, a, (quotR l a).1, [], [], false⟩)
  else ⟨5, a, (quotR l a).1, textS (quotR l a).2, [], false⟩
set_option maxHeartbeats 8000000 in
theorem quoted_L {l : List Int} (h : CL l) (a : Nat) (ha : a < l.length) : callL Try.prog ext9 50 [LI l, .int .i64 a] [] = some ((quotedF l a).d, [.no], []) := by
  have hl := h.len
  have lN := LIlen l
  have hwa := w1 a (by omega)
  have ha1 : (a : Int) < l.length := by omega
  obtain ⟨q1, q2, q3⟩ := h.at ha
  obtain ⟨mark, hmk⟩ : ∃ m, Hid (l.getD a 0 = m) := ⟨_, rfl⟩
  have hR : scanF (quotS l mark) l.length (a + 1) [] = quotR l a := by unfold quotR; rw [hmk.out]
  have hQ : quotedF l a = if (quotR l a).1 < l.length then (if l.getD (quotR l a).1 0 = mark then ⟨5, a, (quotR l a).1 + 1, textS (quotR l a).2, [], false⟩ else ⟨6, a, (quotR l a).1, [], [], false⟩)
    else ⟨5, a, (quotR l a).1, textS (quotR l a).2, [], false⟩ := by unfold quotedF; rw [hmk.out]
  rw [hmk.out] at q3
  rw [hQ]
  unfold Tk.d tkD
  clear hQ hmk q1 q2
  have HR := Hd.mk hR
  clear hR
  generalize quotR l a = R at *
  refine callK (m := 93) (res := []) (rs := [.cell 4 56]) rfl Try.func50 rfl rfl rfl rfl rfl ?_
  repeat' (first
    | simp only [*, go_seq, go_block, go_loop, go_region, go_draw, go_ops_nil, go_ops, go_dops1, go_dops, okG_some, okB_some, guardG, opG, opD, isStore, inB, sval, stake, eats, eaters, get, cval, cval1, St.taken, put_slot, put_room, put_box, put_ctr, put_none, dem_none, dem_slot, dem_room, setBox_slot, setBox_room, setBox_box, entry_slot, entry_ctr, ↓reduceIte, Nat.reduceEqDiff, Nat.reduceLT, Nat.reduceLeDiff, reduceCtorEq, decide_true, List.filterMap_cons, List.filterMap_nil, Option.bind_some, Option.map_some, List.getElem?_cons_zero, List.getD_cons_zero, List.getD_cons_succ, List.contains_nil, List.map_cons, List.map_nil, beq_self_eq_true, Bool.and_true, Nat.reduceBEq, Bool.false_eq_true, dbin, dIntBin, row9, frz9, frzOf_def, frz_nil, allocKey, isAlloc, loadsOwn, ptrAt, pureB, leaf, leafN, List.all_cons, List.all_nil, List.nil_append, List.append_nil, List.length_nil, List.length_cons, List.find?_cons, List.take_zero, List.drop_zero, List.drop_succ_cons, dcells, Nat.zero_add, Nat.reduceAdd, stepBox, Bool.and_false, Int.natCast_nonneg, Int.toNat_natCast, and_self, dp3, ia44, bs44e, ty56, zr56, bd56_01]
    | (refine drW_intro (by kernel_rfl) ?_)
    | (refine gw_intro (fun h => ?_) (fun h => ?_) <;> (try simp only [beq_true, beq_false, Bool.not_eq_eq_eq_not, Bool.not_true, Bool.not_false, Bool.not_not, decide_eq_true_eq, decide_eq_false_iff_not, ge_iff_le, gt_iff_lt] at h)))
  refine loopH (fun st => ∃ (i : Nat) (acc : List Int), i ≤ l.length ∧ Hd (AccOK l acc (a + 1) i) ∧ st.slot 0 = LI l ∧ st.slot 1 = .int .i64 a ∧ st.slot 4 = .ptr 4 1 0 ∧ st.box 4 = some ⟨1, [.int .i64 0, .int .i64 0, .int .i64 0, .str [], .str [], .bool false]⟩ ∧ st.slot 5 = .ptr 5 2 0 ∧
    st.box 5 = some ⟨2, [.int .i64 5, .int .i64 a, .int .i64 0, .str [], .str [], .bool false]⟩ ∧ st.slot 6 = .int .i64 mark ∧ st.slot 7 = LI acc ∧ (st.room 7 = [.full] ∨ st.room 7 = [.own 3]) ∧ st.slot 8 = .int .i64 i ∧ Hd (scanF (quotS l mark) l.length i acc = R)) (fun st => l.length - slotI st 8) ?_ ?_
  · refine ⟨a + 1, [], ha, ⟨by simp, by simp⟩, ?_, ?_, ?_, ?_, ?_, ?_, ?_, ?_, ?_, ?_, HR⟩ <;> first | (simp only [*, put_slot, put_room, put_box, dem_slot, dem_box, dem_room, setBox_slot, setBox_box, entry_slot, ↓reduceIte, Nat.reduceEqDiff, reduceCtorEq, List.getD_cons_zero, List.getD_cons_succ, and_true, or_false, List.cons.injEq]; done) | (simp only [*, put_slot, dem_slot, ↓reduceIte, Nat.reduceEqDiff]; rfl)
  · rintro st K ⟨i, acc, hil, hacc, s0, s1, s4, b4, s5, b5, s6, s7, hrm, s8, hinv⟩ hn hx hr
    have hw := w1 i (by omega)
    have hw2 := w2 i (by omega)
    have hinv' : scanF (quotS l mark) l.length i acc = R := hinv
    by_cases hgo : i < l.length ∧ l.getD i 0 ≠ mark ∧ l.getD i 0 ≠ 10
    · obtain ⟨g1, g2, g3⟩ := hgo
      obtain ⟨d1, d2, d3⟩ := h.at g1
      have g1' : (i : Int) < l.length := by omega
      have g2' : (l.getD i 0 != mark) = true := by rw [bne_iff_ne]; exact g2
      have g3' : (l.getD i 0 == 10) = false := by rw [beq_eq_false_iff_ne]; exact g3
      have hV := val_L h i (by omega)
      have hvp := val_pos g1
      have hvr := val_rng h g1
      have hs : quotS l mark i acc = (if l.getD i 0 ≠ 92 then some (i + 1, acc ++ [l.getD i 0]) else if i + 1 = l.length then some (i + 1, acc) else if l.getD (i + 1) 0 = 10 then some (i + 2, acc) else some ((valF l i).2, acc ++ [(valF l i).1])) := by
        unfold quotS
        rw [if_pos ⟨g1, g2, g3⟩]
      have hsz := szI64 acc
      have hfit : (acc.map (D.int .i64)).length ≤ 1073741823 := by have := AccOK.len hacc; simp; omega
      have hap1 : acc.map (D.int .i64) ++ [.int .i64 (l.getD i 0)] = (acc ++ [l.getD i 0]).map (D.int .i64) := by simp
      have hap2 : acc.map (D.int .i64) ++ [.int .i64 (valF l i).1] = (acc ++ [(valF l i).1]).map (D.int .i64) := by simp
      have haccA := Hd.mk (AccOK.snoc hacc (Nat.le_refl (i + 1)) ⟨d1, d2⟩)
      have haccB := Hd.mk (AccOK.snoc hacc hvp.1 hvr)
      have haccC : Hd (AccOK l acc (a + 1) (i + 1)) := ⟨AccOK.rng hacc, by have := AccOK.len hacc; omega⟩
      have haccD : Hd (AccOK l acc (a + 1) (i + 2)) := ⟨AccOK.rng hacc, by have := AccOK.len hacc; omega⟩
      -- the next place, and what is gathered
      have key : ∃ (j : Nat) (ac : List Int), quotS l mark i acc = some (j, ac) ∧ i < j ∧ j ≤ l.length ∧ Hd (AccOK l ac (a + 1) j) ∧
          ((l.getD i 0 ≠ 92 ∧ j = i + 1 ∧ ac = acc ++ [l.getD i 0]) ∨ (l.getD i 0 = 92 ∧ i + 1 = l.length ∧ j = i + 1 ∧ ac = acc) ∨
           (l.getD i 0 = 92 ∧ i + 1 < l.length ∧ l.getD (i + 1) 0 = 10 ∧ j = i + 2 ∧ ac = acc) ∨ (l.getD i 0 = 92 ∧ i + 1 < l.length ∧ l.getD (i + 1) 0 ≠ 10 ∧ j = (valF l i).2 ∧ ac = acc ++ [(valF l i).1])) := by
        rw [hs]
        by_cases c1 : l.getD i 0 ≠ 92
        · exact ⟨i + 1, _, by rw [if_pos c1], by omega, by omega, haccA, .inl ⟨c1, rfl, rfl⟩⟩
        · have c1' : l.getD i 0 = 92 := Classical.not_not.1 c1
          by_cases c2 : i + 1 = l.length
          · exact ⟨i + 1, _, by rw [if_neg c1, if_pos c2], by omega, by omega, haccC, .inr (.inl ⟨c1', c2, rfl, rfl⟩)⟩
          · by_cases c3 : l.getD (i + 1) 0 = 10
            · exact ⟨i + 2, _, by rw [if_neg c1, if_neg c2, if_pos c3], by omega, by omega, haccD, .inr (.inr (.inl ⟨c1', by omega, c3, rfl, rfl⟩))⟩
            · exact ⟨_, _, by rw [if_neg c1, if_neg c2, if_neg c3], by omega, hvp.2, haccB, .inr (.inr (.inr ⟨c1', by omega, c3, rfl, rfl⟩))⟩
      obtain ⟨j, ac, k1, k2, k3, k4, kc⟩ := key
      have T : Hd (scanF (quotS l mark) l.length j ac = R) := by
        rw [(quot_goes l mark).step k1] at hinv'
        exact hinv'
      have hnx : i + 1 < l.length → (l.map (D.int .i64)).getD (i + 1) .bad = .int .i64 (l.getD (i + 1) 0) := fun hh => (h.at hh).2.2
      clear hinv hinv' hs haccA haccB haccC haccD hacc k1 h g2 g3 hvp hvr
      generalize (valF l i).1 = vc at *
      generalize (valF l i).2 = vp at *
      generalize l.getD i 0 = x at *
      rcases kc with ⟨c1, rfl, rfl⟩ | ⟨c1, c2, rfl, rfl⟩ | ⟨c1, c2, c3, rfl, rfl⟩ | ⟨c1, c2, c3, rfl, rfl⟩
      · have c1' : (x != 92) = true := by rw [bne_iff_ne]; exact c1
        clear hV hap2 hnx c1
        rcases hrm with hrm | hrm
        all_goals
          repeat' (first
    | simp only [*, go_nil, go_seq, go_cond, go_block, go_blk, go_skip, go_region, go_ops_nil, go_ops, okG_some, gwD_bool, cwD_bool, gw_true, gw_false, guardG, opG, isPtr, inB, sval, stake, eats, eaters, get, cval, cval1, croom, St.taken, put_slot, put_room, dem_none, dem_slot, ↓reduceIte, Nat.reduceEqDiff, Nat.reduceLT, Nat.reduceLeDiff, reduceCtorEq, decide_true, List.filterMap_cons, List.filterMap_nil, Option.bind_some, Option.map_some, List.getElem?_cons_zero, List.getElem?_cons_succ, List.contains_cons, List.contains_nil, List.map_cons, List.map_nil, beq_self_eq_true, Bool.or_false, Nat.reduceBEq, Bool.false_eq_true, dbin, dIntBin, row9, frz9, frzOf_def, frz_nil, List.length_nil, List.length_cons, dcells, Nat.zero_add, Bool.and_false, and_true, Int.natCast_nonneg, Int.toNat_natCast, and_self, or_true, or_false, szOk_cons, List.cons.injEq, List.getElem?_toArray, dStrBin, dp3, ia44, len44, ap44, bs44]
    | (refine drW_intro (by kernel_rfl) ?_)
    | (refine gw_intro (fun h => ?_) (fun h => ?_) <;> (try simp only [beq_true, beq_false, Bool.not_eq_eq_eq_not, Bool.not_true, Bool.not_false, Bool.not_not, decide_eq_true_eq, decide_eq_false_iff_not, ge_iff_le, gt_iff_lt] at h)))
          refine hn _ ⟨i + 1, acc ++ [x], k3, k4, ?_, ?_, ?_, ?_, ?_, ?_, ?_, ?_, ?_, ?_, T⟩ ?_
          all_goals first | (simp only [*, put_slot, put_room, put_box, dem_slot, dem_box, dem_room, ↓reduceIte, Nat.reduceEqDiff, reduceCtorEq, List.cons.injEq, and_true, or_true]; done) | (simp only [slotI, *, put_slot, ↓reduceIte]; omega)
      · have c1' : (x != 92) = false := by rw [bne_eq_false_iff_eq]; exact c1
        have c2' : (((i + 1 : Nat) : Int) == l.length) = true := by rw [beq_iff_eq]; omega
        clear hV hap2 hap1 hnx c1 c2
        repeat' (first
    | simp only [*, go_nil, go_seq, go_cond, go_block, go_blk, go_skip, go_region, go_ops_nil, go_ops, okG_some, gwD_bool, cwD_bool, gw_true, gw_false, guardG, opG, isPtr, inB, sval, stake, eats, eaters, get, cval, cval1, croom, St.taken, put_slot, put_room, dem_none, ↓reduceIte, Nat.reduceEqDiff, Nat.reduceLT, reduceCtorEq, decide_true, List.filterMap_cons, List.filterMap_nil, Option.bind_some, Option.map_some, List.getElem?_cons_zero, List.getElem?_cons_succ, List.contains_nil, List.map_cons, List.map_nil, beq_self_eq_true, Nat.reduceBEq, Bool.false_eq_true, dbin, dIntBin, row9, frz9, frzOf_def, frz_nil, List.length_nil, List.length_cons, dcells, Nat.zero_add, Bool.and_false, Int.natCast_nonneg, Int.toNat_natCast, and_self, dStrBin, dp3, ia44, len44]
    | (refine drW_intro (by kernel_rfl) ?_)
    | (refine gw_intro (fun h => ?_) (fun h => ?_) <;> (try simp only [beq_true, beq_false, Bool.not_eq_eq_eq_not, Bool.not_true, Bool.not_false, Bool.not_not, decide_eq_true_eq, decide_eq_false_iff_not, ge_iff_le, gt_iff_lt] at h)))
        refine hn _ ⟨i + 1, ac, k3, k4, ?_, ?_, ?_, ?_, ?_, ?_, ?_, ?_, ?_, ?_, T⟩ ?_
        all_goals first | (simp only [*, put_slot, put_room, put_box, dem_slot, dem_box, dem_room, ↓reduceIte, Nat.reduceEqDiff, reduceCtorEq]; done) | (simp only [slotI, *, put_slot, ↓reduceIte]; omega)
      · have c1' : (x != 92) = false := by rw [bne_eq_false_iff_eq]; exact c1
        have c2' : (((i + 1 : Nat) : Int) == l.length) = false := by rw [beq_eq_false_iff_ne]; omega
        have c4 : ((i + 1 : Nat) : Int) < l.length := by omega
        have c5 := hnx c2
        rw [c3] at c5
        clear hV hap2 hap1 hnx c1 c2 c3
        repeat' (first
    | simp only [*, go_nil, go_seq, go_cond, go_block, go_blk, go_skip, go_region, go_ops_nil, go_ops, okG_some, gwD_bool, cwD_bool, gw_true, gw_false, guardG, opG, isPtr, inB, sval, stake, eats, eaters, get, cval, cval1, croom, St.taken, put_slot, put_room, dem_none, ↓reduceIte, Nat.reduceEqDiff, Nat.reduceLT, reduceCtorEq, decide_true, List.filterMap_cons, List.filterMap_nil, Option.bind_some, Option.map_some, List.getElem?_cons_zero, List.getElem?_cons_succ, List.contains_nil, List.map_cons, List.map_nil, beq_self_eq_true, Nat.reduceBEq, Bool.false_eq_true, dbin, dIntBin, row9, frz9, frzOf_def, frz_nil, List.length_nil, List.length_cons, dcells, Nat.zero_add, Bool.and_false, Int.natCast_nonneg, Int.toNat_natCast, and_self, dStrBin, dp3, ia44, len44]
    | (refine drW_intro (by kernel_rfl) ?_)
    | (refine gw_intro (fun h => ?_) (fun h => ?_) <;> (try simp only [beq_true, beq_false, Bool.not_eq_eq_eq_not, Bool.not_true, Bool.not_false, Bool.not_not, decide_eq_true_eq, decide_eq_false_iff_not, ge_iff_le, gt_iff_lt] at h)))
        refine hn _ ⟨i + 2, ac, k3, k4, ?_, ?_, ?_, ?_, ?_, ?_, ?_, ?_, ?_, ?_, T⟩ ?_
        all_goals first | (simp only [*, put_slot, put_room, put_box, dem_slot, dem_box, dem_room, ↓reduceIte, Nat.reduceEqDiff, reduceCtorEq]; done) | (simp only [slotI, *, put_slot, ↓reduceIte]; omega)
      · have c1' : (x != 92) = false := by rw [bne_eq_false_iff_eq]; exact c1
        have c2' : (((i + 1 : Nat) : Int) == l.length) = false := by rw [beq_eq_false_iff_ne]; omega
        have c4 : ((i + 1 : Nat) : Int) < l.length := by omega
        have c5 := hnx c2
        have c3' : (l.getD (i + 1) 0 == 10) = false := by rw [beq_eq_false_iff_ne]; exact c3
        clear hap1 hnx c1 c2 c3
        generalize l.getD (i + 1) 0 = x2 at *
        rcases hrm with hrm | hrm
        all_goals
          repeat' (first
    | simp only [*, go_nil, go_seq, go_cond, go_block, go_blk, go_skip, go_region, go_ops_nil, go_ops, okG_some, gwD_bool, cwD_bool, gw_true, gw_false, guardG, opG, isPtr, inB, sval, stake, eats, eaters, get, cval, cval1, croom, St.taken, put_slot, put_room, dem_none, dem_slot, dem_room, dem_room1, ↓reduceIte, Nat.reduceEqDiff, Nat.reduceLT, Nat.reduceLeDiff, reduceCtorEq, decide_true, List.filterMap_cons, List.filterMap_nil, Option.bind_some, Option.map_some, List.getElem?_cons_zero, List.getElem?_cons_succ, List.contains_cons, List.contains_nil, List.map_cons, List.map_nil, beq_self_eq_true, Bool.or_false, Bool.or_true, Bool.and_true, Nat.reduceBEq, Bool.false_eq_true, dbin, dIntBin, okR, callG, row9, frz9, frzOf_def, frz_nil, pureB, leaf, leafN, List.all_cons, List.all_nil, List.nil_append, List.append_nil, List.length_nil, List.length_cons, dcells, Nat.zero_add, Bool.and_false, and_true, Int.natCast_nonneg, Int.toNat_natCast, and_self, or_true, or_false, szOk_cons, List.cons.injEq, List.getElem?_toArray, dStrBin, dp3, ia44, len44, ap44, bs44]
    | (refine drW_intro (by kernel_rfl) ?_)
    | (refine gw_intro (fun h => ?_) (fun h => ?_) <;> (try simp only [beq_true, beq_false, Bool.not_eq_eq_eq_not, Bool.not_true, Bool.not_false, Bool.not_not, decide_eq_true_eq, decide_eq_false_iff_not, ge_iff_le, gt_iff_lt] at h)))
          refine hn _ ⟨_, acc ++ [vc], k3, k4, ?_, ?_, ?_, ?_, ?_, ?_, ?_, ?_, ?_, ?_, T⟩ ?_
          all_goals first | (simp only [*, put_slot, put_room, put_box, dem_slot, dem_box, dem_room, ↓reduceIte, Nat.reduceEqDiff, reduceCtorEq, List.cons.injEq, and_true, or_true]; done) | (simp only [slotI, *, put_slot, ↓reduceIte]; omega)
    · have hend : R = (i, acc) := by rw [← hinv', scan_stop (by unfold quotS; rw [if_neg hgo])]
      subst hend
      have hT := text_L (AccOK.CL hacc (by omega))
      clear hinv hinv' hacc hn HR
      by_cases g1 : i < l.length
      · obtain ⟨d1, d2, d3⟩ := h.at g1
        have g1' : (i : Int) < l.length := by omega
        by_cases g2 : l.getD i 0 = mark
        · have g2' : (l.getD i 0 != mark) = false := by rw [bne_eq_false_iff_eq]; exact g2
          simp only [if_pos g1, if_pos g2] at hx hr
          clear hgo g1 h g2 d1 d2
          generalize l.getD i 0 = x at *
          generalize textS acc = tx at *
          repeat' (first
    | simp only [*, go_nil, go_seq, go_cond, go_exit, go_xcode, go_region, go_ops_nil, go_ops, okG_some, gwD_bool, cwD_bool, gw_true, gw_false, guardG, opG, isPtr, inB, sval, stake, eats, eaters, get, croom, St.taken, put_slot, put_room, dem_none, ↓reduceIte, Nat.reduceEqDiff, Nat.reduceLT, reduceCtorEq, decide_true, List.filterMap_cons, List.filterMap_nil, Option.bind_some, Option.map_some, List.getElem?_cons_zero, List.getElem?_cons_succ, List.contains_nil, List.map_cons, List.map_nil, beq_self_eq_true, Nat.reduceBEq, Bool.false_eq_true, dbin, dIntBin, row9, frz9, frzOf_def, frz_nil, List.length_nil, List.length_cons, dcells, Nat.zero_add, Bool.and_false, Int.natCast_nonneg, Int.toNat_natCast, and_self, dStrBin, dp3, ia44, len44]
    | (refine drW_intro (by kernel_rfl) ?_)
    | (refine gw_intro (fun h => ?_) (fun h => ?_) <;> (try simp only [beq_true, beq_false, Bool.not_eq_eq_eq_not, Bool.not_true, Bool.not_false, Bool.not_not, decide_eq_true_eq, decide_eq_false_iff_not, ge_iff_le, gt_iff_lt] at h)))
          refine hx _ _ ?_
          repeat' (first
    | simp only [*, go_seq, go_cond, go_retc, go_xblk, go_region, go_ops_nil, go_ops, okG_some, okB_some, cwD_bool, gw_true, guardG, opG, isPtr, inB, sval, stake, eats, eaters, get, cval, cval1, St.taken, put_slot, put_box, put_none, dem_none, setBox_slot, setBox_box, endQ, endR, endV, rvars, rvar, room1, ↓reduceIte, Nat.reduceEqDiff, Nat.reduceLT, Nat.reduceLeDiff, reduceCtorEq, decide_true, List.filterMap_cons, List.filterMap_nil, Option.map_some, List.contains_nil, List.map_cons, List.map_nil, Bool.and_true, Nat.reduceBEq, Bool.false_eq_true, dbin, dIntBin, okR, callG, row9, frz9, frzOf_def, frz_nil, pureB, leaf, leafN, List.all_cons, List.all_nil, List.nil_append, List.cons_append, List.append_nil, List.range_zero, List.length_nil, List.length_cons, List.take_zero, List.drop_zero, List.take_succ_cons, List.drop_succ_cons, dcells, Nat.zero_add, Nat.reduceAdd, stepBox, Bool.and_false, and_self, ty3, ty9, len44, ty56, dp56, fp56_2, fp56_3]
    | (refine drW_intro (by kernel_rfl) ?_)
    | (refine gw_intro (fun h => ?_) (fun h => ?_) <;> (try simp only [beq_true, beq_false, Bool.not_eq_eq_eq_not, Bool.not_true, Bool.not_false, Bool.not_not, decide_eq_true_eq, decide_eq_false_iff_not, ge_iff_le, gt_iff_lt] at h)))
        · have g2' : (l.getD i 0 != mark) = true := by rw [bne_iff_ne]; exact g2
          have g3' : (l.getD i 0 == 10) = true := by
            rw [beq_iff_eq]
            apply Classical.byContradiction
            intro hh
            exact hgo ⟨g1, g2, hh⟩
          simp only [if_pos g1, if_neg g2] at hx hr
          clear hgo g1 h g2 d1 d2
          generalize l.getD i 0 = x at *
          repeat' (first
    | simp only [*, go_seq, go_cond, go_block, go_skip, go_retc, go_region, go_ops_nil, go_ops, okG_some, okB_some, gwD_bool, cwD_bool, gw_true, guardG, opG, isPtr, inB, sval, stake, eats, eaters, get, cval, cval1, croom, St.taken, put_slot, put_room, put_box, put_none, dem_none, ↓reduceIte, Nat.reduceEqDiff, Nat.reduceLT, Nat.reduceLeDiff, reduceCtorEq, decide_true, List.filterMap_cons, List.filterMap_nil, Option.bind_some, Option.map_some, List.getElem?_cons_zero, List.getElem?_cons_succ, List.contains_nil, List.map_cons, List.map_nil, beq_self_eq_true, Bool.and_true, Nat.reduceBEq, Bool.false_eq_true, dbin, dIntBin, row9, frz9, frzOf_def, frz_nil, pureB, leaf, leafN, List.all_cons, List.all_nil, List.nil_append, List.append_nil, List.length_nil, List.length_cons, List.take_zero, List.drop_zero, List.drop_succ_cons, dcells, Nat.zero_add, Nat.reduceAdd, stepBox, Bool.and_false, Int.natCast_nonneg, Int.toNat_natCast, and_self, dStrBin, dp3, ia44, len44, ty56, bd56_012]
    | (refine drW_intro (by kernel_rfl) ?_)
    | (refine gw_intro (fun h => ?_) (fun h => ?_) <;> (try simp only [beq_true, beq_false, Bool.not_eq_eq_eq_not, Bool.not_true, Bool.not_false, Bool.not_not, decide_eq_true_eq, decide_eq_false_iff_not, ge_iff_le, gt_iff_lt] at h)))
          refine hr _ ?_
          repeat' (first
    | simp only [*, put_slot, put_box, setBox_slot, setBox_box, endQ, endR, endV, rvars, rvar, room1, ↓reduceIte, Nat.reduceEqDiff, Option.map_some, List.map_nil, Bool.and_true, pureB, leaf, leafN, List.all_cons, List.all_nil, List.range_zero, and_self, dp56]
    | (refine drW_intro (by kernel_rfl) ?_)
    | (refine gw_intro (fun h => ?_) (fun h => ?_) <;> (try simp only [beq_true, beq_false, Bool.not_eq_eq_eq_not, Bool.not_true, Bool.not_false, Bool.not_not, decide_eq_true_eq, decide_eq_false_iff_not, ge_iff_le, gt_iff_lt] at h)))
      · have g1' : ¬ (i : Int) < l.length := by omega
        simp only [if_neg g1] at hx hr
        clear hgo g1 h
        generalize textS acc = tx at *
        repeat' (first
    | simp only [*, go_nil, go_seq, go_cond, go_exit, go_xcode, go_region, go_ops_nil, go_ops, okG_some, gwD_bool, cwD_bool, gw_false, guardG, opG, isPtr, inB, sval, stake, eats, eaters, get, cval, cval1, croom, St.taken, put_slot, put_room, dem_none, ↓reduceIte, Nat.reduceEqDiff, Nat.reduceLT, reduceCtorEq, decide_true, decide_false, List.filterMap_cons, List.filterMap_nil, Option.bind_some, Option.map_some, List.getElem?_cons_zero, List.getElem?_cons_succ, List.contains_nil, List.map_cons, List.map_nil, Nat.reduceBEq, Bool.false_eq_true, dbin, dIntBin, row9, frz9, frzOf_def, frz_nil, beq_true, dcells, Bool.and_false, dStrBin, len44]
    | (refine drW_intro (by kernel_rfl) ?_)
    | (refine gw_intro (fun h => ?_) (fun h => ?_) <;> (try simp only [beq_true, beq_false, Bool.not_eq_eq_eq_not, Bool.not_true, Bool.not_false, Bool.not_not, decide_eq_true_eq, decide_eq_false_iff_not, ge_iff_le, gt_iff_lt] at h)))
        refine hx _ _ ?_
        repeat' (first
    | simp only [*, go_seq, go_cond, go_skip, go_retc, go_xblk, go_region, go_ops_nil, go_ops, okG_some, okB_some, cwD_bool, gw_false, guardG, opG, isPtr, inB, sval, stake, eats, eaters, get, St.taken, put_slot, put_box, put_none, dem_none, setBox_slot, setBox_box, endQ, endR, endV, rvars, rvar, room1, ↓reduceIte, Nat.reduceEqDiff, Nat.reduceLT, Nat.reduceLeDiff, reduceCtorEq, decide_true, decide_false, List.filterMap_cons, List.filterMap_nil, Option.map_some, List.contains_nil, List.map_cons, List.map_nil, Bool.and_true, Nat.reduceBEq, Bool.false_eq_true, dbin, dIntBin, okR, callG, row9, frz9, frzOf_def, frz_nil, pureB, leaf, leafN, List.all_cons, List.all_nil, List.nil_append, List.cons_append, List.append_nil, List.range_zero, List.length_nil, List.length_cons, List.take_zero, List.drop_zero, List.take_succ_cons, List.drop_succ_cons, dcells, Nat.zero_add, Nat.reduceAdd, stepBox, Bool.and_false, and_self, ty3, ty9, len44, ty56, dp56, fp56_2, fp56_3]
    | (refine drW_intro (by kernel_rfl) ?_)
    | (refine gw_intro (fun h => ?_) (fun h => ?_) <;> (try simp only [beq_true, beq_false, Bool.not_eq_eq_eq_not, Bool.not_true, Bool.not_false, Bool.not_not, decide_eq_true_eq, decide_eq_false_iff_not, ge_iff_le, gt_iff_lt] at h)))
end Go.Av
/- Chapter 19: the document's tokenizer: urls. -/
set_option linter.unusedSimpArgs false
set_option linter.unusedVariables false
set_option linter.unusedSectionVars false
set_option maxRecDepth 100000
namespace Go.Av
open Go.Proofs Go.Proofs.Ytaldmffahmomoaa Go.RowKit
def spRun (l : List Int) (k : Nat) : Nat := runF (atB spC l) l.length k
theorem sp_end {l : List Int} : ∀ a, l.length ≤ a → atB spC l a = false := fun a h => by simp [atB]; omega
def badU (l : List Int) (i k : Nat) : Bool :=
  decide (i < k) || l.getD k 0 == 34 || l.getD k 0 == 39 || l.getD k 0 == 40 || hidC (l.getD k 0) || (l.getD k 0 == 92 && !escB l k)
def urlS (l : List Int) (i : Nat) (acc : List Int) : Option (Nat × List Int) :=
  if spRun l i < l.length ∧ l.getD (spRun l i) 0 ≠ 41 ∧ badU l i (spRun l i) = false then
    (if l.getD (spRun l i) 0 = 92 then some ((valF l (spRun l i)).2, acc ++ [(valF l (spRun l i)).1]) else some (spRun l i + 1, acc ++ [l.getD (spRun l i) 0]))
  else none
theorem url_goes (l : List Int) : Goes (urlS l) l.length := ⟨fun a x b y h => by
  unfold urlS at h
  have hp := runF_pos (p := atB spC l) (n := l.length) (a := a)
  split at h
  · rename_i h1
    have hv := val_pos h1.1
    unfold spRun at *
    split at h <;> (injection h with h; injection h with h; omega)
  · cases h⟩
def urlR (l : List Int) (a : Nat) : Nat × List Int := scanF (urlS l) l.length a []
def urlE (l : List Int) (fr : Nat) (r : Nat × List Int) : Tk :=
  if l.length ≤ spRun l r.1 then ⟨7, fr, l.length, textS r.2, [], false⟩ else if l.getD (spRun l r.1) 0 = 41 then ⟨7, fr, spRun l r.1 + 1, textS r.2, [], false⟩ else ⟨8, fr, restF l (spRun l r.1), [], [], false⟩
def urlF (l : List Int) (fr a : Nat) : Tk := urlE l fr (urlR l a)
set_option maxHeartbeats 16000000 in
theorem url_L {l : List Int} (h : CL l) (fr a : Nat) (ha : a ≤ l.length) : callL Try.prog ext9 70 [LI l, .int .i64 fr, .int .i64 a] [] = some ((urlF l fr a).d, [.no], []) := by
  have hl := h.len
  have lN := LIlen l
  have HR : Hd (scanF (urlS l) l.length a [] = urlR l a) := rfl
  unfold urlF
  generalize urlR l a = R at *
  obtain ⟨E, hE⟩ : ∃ E, Hid (urlE l fr R = E) := ⟨_, rfl⟩
  rw [hE.out]
  refine callK (m := 98) (res := []) (rs := [.cell 6 56]) rfl Try.func70 rfl rfl rfl rfl rfl ?_
  repeat' (first
    | simp only [*, go_seq, go_block, go_loop, go_region, go_ops_nil, go_ops, okG_some, okB_some, guardG, opG, inB, sval, stake, eats, eaters, get, cval, cval1, St.taken, put_slot, put_room, dem_none, dem_slot, dem_room, setBox_slot, setBox_room, entry_slot, entry_ctr, ↓reduceIte, Nat.reduceEqDiff, Nat.reduceLT, decide_true, List.filterMap_cons, List.filterMap_nil, Option.map_some, List.getD_cons_zero, List.getD_cons_succ, List.contains_nil, List.map_nil, Bool.and_true, Bool.false_eq_true, row9, frz9, frzOf_def, frz_nil, leaf, leafN, List.all_cons, List.all_nil, List.length_nil, Nat.reduceAdd, stepBox, and_self, bs44e, zr56]
    | (refine drW_intro (by kernel_rfl) ?_)
    | (refine gw_intro (fun h => ?_) (fun h => ?_) <;> (try simp only [beq_true, beq_false, Bool.not_eq_eq_eq_not, Bool.not_true, Bool.not_false, Bool.not_not, decide_eq_true_eq, decide_eq_false_iff_not, ge_iff_le, gt_iff_lt] at h)))
  refine loopH (fun st => ∃ (i : Nat) (acc : List Int), i ≤ l.length ∧ Hd (AccOK l acc a i) ∧ st.slot 0 = LI l ∧ st.slot 1 = .int .i64 fr ∧ st.slot 6 = .ptr 6 1 0 ∧ st.box 6 = some ⟨1, [.int .i64 0, .int .i64 0, .int .i64 0, .str [], .str [], .bool false]⟩ ∧ st.slot 7 = LI acc ∧ (st.room 7 = [.full] ∨ st.room 7 = [.own 3]) ∧ st.slot 8 = .int .i64 i ∧ Hd (scanF (urlS l) l.length i acc = R)) (fun st => l.length - slotI st 8) ?_ ?_
  · refine ⟨a, [], ha, ⟨by simp, by simp⟩, ?_, ?_, ?_, ?_, ?_, ?_, ?_, HR⟩ <;> first | (simp only [*, put_slot, put_room, put_box, dem_slot, dem_box, dem_room, setBox_box, entry_slot, ↓reduceIte, Nat.reduceEqDiff, reduceCtorEq, List.getD_cons_zero, List.getD_cons_succ, and_true, or_false, List.cons.injEq]; done) | (simp only [*, put_slot, dem_slot, ↓reduceIte, Nat.reduceEqDiff]; rfl)
  · rintro st K ⟨i, acc, hil, hacc, s0, s1, s6, b6, s7, hrm, s8, hinv⟩ hn hx hr
    have HN := hn
    clear hn hx
    repeat' (first
    | simp only [*, go_seq, go_block, go_loop, go_region, go_ops_nil, go_ops, okG_some, guardG, opG, inB, sval, stake, eats, eaters, get, St.taken, put_slot, put_room, dem_none, ↓reduceIte, Nat.reduceLT, decide_true, List.filterMap_cons, List.filterMap_nil, List.contains_nil, Nat.reduceBEq, Bool.false_eq_true, row9, frz9, frzOf_def, frz_nil, Bool.and_false]
    | (refine drW_intro (by kernel_rfl) ?_)
    | (refine gw_intro (fun h => ?_) (fun h => ?_) <;> (try simp only [beq_true, beq_false, Bool.not_eq_eq_eq_not, Bool.not_true, Bool.not_false, Bool.not_not, decide_eq_true_eq, decide_eq_false_iff_not, ge_iff_le, gt_iff_lt] at h)))
    refine loopH (fun s2 => ∃ k : Nat, i ≤ k ∧ k ≤ l.length ∧ s2.slot 0 = LI l ∧ s2.slot 1 = .int .i64 fr ∧ s2.slot 6 = .ptr 6 1 0 ∧ s2.box 6 = some ⟨1, [.int .i64 0, .int .i64 0, .int .i64 0, .str [], .str [], .bool false]⟩ ∧ s2.slot 7 = LI acc ∧ s2.room 7 = st.room 7 ∧ s2.slot 8 = .int .i64 i ∧ s2.slot 9 = .int .i64 k ∧ Hd (spRun l k = spRun l i)) (fun s2 => l.length - slotI s2 9) ?_ ?_
    · refine ⟨i, Nat.le_refl _, hil, ?_, ?_, ?_, ?_, ?_, ?_, ?_, ?_, rfl⟩ <;> first | (simp only [*, put_slot, put_room, put_box, dem_slot, dem_box, dem_room, ↓reduceIte, Nat.reduceEqDiff, reduceCtorEq]; done) | (simp only [*, go_nil, go_seq, go_cond, go_block, go_blk, go_skip, go_exit, go_retc, go_xcode, go_xblk, go_loop, go_region, go_draw, go_ops_nil, go_dops_nil, go_ops, go_dops1, go_dops, okG_some, okB_some, gwD_bool, gwD_undef, cwD_bool, gw_true, gw_false, guardG_none, guardG, opG, opD, isPtr, isStore, inB, sval, stake, eats, eaters, get, cval, cval1, croom, St.taken, put_slot, put_room, put_box, put_ctr, put_none, dem_none, dem_slot, dem_box, dem_ctr, dem_room, dem_room1, setBox_slot, setBox_room, setBox_ctr, setBox_box, entry_slot, entry_room, entry_box, entry_ctr, endQ, endR, endV, rvars, rvar, room1, ↓reduceIte, Nat.reduceEqDiff, Nat.reduceLT, Nat.reduceLeDiff, reduceCtorEq, decide_true, decide_false, List.filterMap_cons, List.filterMap_nil, Option.bind_some, Option.map_some, Option.bind_none, Option.map_none, List.getElem?_cons_zero, List.getElem?_cons_succ, List.getD_cons_zero, List.getD_cons_succ, List.contains_cons, List.contains_nil, List.map_cons, List.map_nil, beq_self_eq_true, beq_iff_eq, Bool.or_false, Bool.false_or, Bool.or_true, Bool.true_or, Bool.and_true, Bool.true_and, Nat.reduceBEq, Bool.false_eq_true, dbin, dIntBin, okR, callG, endN, newV, row9, frz9, frzOf_def, frz_nil, frz_cons, frzD, rowList, rowElem, stepRow, madeRow, isLocal, allocKey, isAlloc, loadsOwn, ptrAt, beq_true, beq_false, Bool.not_true, Bool.not_false, pureB, leaf, leafN, List.all_cons, List.all_nil, List.nil_append, List.cons_append, List.append_nil, List.take_nil, List.range_zero, List.length_nil, List.length_cons, String.reduceBEq, Bool.true_beq, Bool.false_beq, List.find?_cons, List.find?_nil, dun, List.getElem?_nil, List.take_zero, List.drop_zero, List.take_succ_cons, List.drop_succ_cons, dcells, Nat.zero_add, Nat.reduceAdd, Nat.reduceSub, Nat.reduceMul, stepBox, Bool.and_false, Bool.false_and, and_true, true_and, List.zipWith, Option.getD_some, List.singleton_append, List.map_map, Int.natCast_nonneg, Int.toNat_natCast, and_self, Nat.mul_one, Nat.add_zero, if_true, St.freeze, false_or, or_true, true_or, or_false, szOk_cons, szOk_nil, List.cons.injEq, false_and, and_false, forall_const, List.getElem?_toArray, List.getElem_toArray, dopt, dbound, ge_iff_le, gt_iff_lt, dStrBin, List.take_length, plainR_s, Int.reduceLE, Int.reduceLT, Int.reduceToNat, Int.reduceBEq, Int.reduceBNe, ty3, ty4, ty5, ty9, dp3, dp4, dp5, dp9, ty22, ia22, len22, ap22, sl22, bs22e, ty44, ia44, len44, ap44, sl44, bs44e, ty62, ia62, len62, ap62, sl62, bs62e, bs22, bs22_2, bs22_3, bs22_4, bs44, ty56, dp56, fa56_0, fp56_0, fa56_1, fp56_1, fa56_2, fp56_2, fa56_3, fp56_3, fa56_4, fp56_4, fa56_5, fp56_5, zr56, ty24, ia24, len24, ap24, bs24e, bs24, ty32, dp32, fa32_0, fp32_0, fa32_1, fp32_1, fa32_2, fp32_2, fa32_3, fp32_3, fa32_4, fp32_4, fa32_5, fp32_5, fa32_6, fp32_6, zr32, ty26, ia26, len26, ap26, bs26e, bs26, ty41, dp41, fa41_0, fp41_0, fa41_1, fp41_1, fa41_2, fp41_2, fa41_3, fp41_3, zr41, ty35, ia35, len35, ap35, bs35e, bs35, bd56_012, bd56_0123, bd56_01235, bd56_01, bd56_01245, bd32_24, bd32_012, bd32_, bd32_243, bd41_, bd41_0, ty51, fp51_0, fp51_1, fp51_2, bd51, dp24, ia22r, len22r, len9, ix9, sl9, cv53, cv35, cv922, cv229]; rfl)
    · rintro s2 K2 ⟨k, hik, hkl, z0, z1, z6, c6, z7, zr, z8, z9, hinv2⟩ hn hx hr2
      have hsp := space_L h k
      have hw := w1 k (by omega)
      cases hc : atB spC l k with
      | true =>
        have hlt := atB_lt hc
        have T : Hd (spRun l (k + 1) = spRun l i) := by
          have h1 : spRun l k = spRun l i := hinv2
          unfold spRun at *
          rw [runF_step sp_end hc] at h1
          exact h1
        rw [hc] at hsp
        clear hinv2 h hr2 hr HN s0 s1 s6 b6 s7 hrm s8
        repeat' (first
    | simp only [*, go_nil, go_seq, go_cond, go_block, go_blk, go_skip, go_region, go_ops_nil, go_ops, okG_some, cwD_bool, gw_true, guardG, opG, isPtr, inB, sval, stake, eats, eaters, get, cval, cval1, St.taken, put_slot, put_room, dem_none, ↓reduceIte, Nat.reduceEqDiff, Nat.reduceLT, decide_true, List.filterMap_cons, List.filterMap_nil, Option.map_some, List.contains_nil, List.map_cons, List.map_nil, Bool.and_true, Nat.reduceBEq, Bool.false_eq_true, dbin, dIntBin, okR, callG, row9, frz9, frzOf_def, frz_nil, pureB, leaf, leafN, List.all_cons, List.all_nil, List.nil_append, List.append_nil, Bool.and_false]
    | (refine drW_intro (by kernel_rfl) ?_)
    | (refine gw_intro (fun h => ?_) (fun h => ?_) <;> (try simp only [beq_true, beq_false, Bool.not_eq_eq_eq_not, Bool.not_true, Bool.not_false, Bool.not_not, decide_eq_true_eq, decide_eq_false_iff_not, ge_iff_le, gt_iff_lt] at h)))
        refine hn _ ⟨k + 1, by omega, hlt, ?_, ?_, ?_, ?_, ?_, ?_, ?_, ?_, T⟩ ?_
        all_goals first | (simp only [*, put_slot, put_room, put_box, dem_slot, dem_box, dem_room, ↓reduceIte, Nat.reduceEqDiff, reduceCtorEq]; done) | (simp only [slotI, *, put_slot, ↓reduceIte]; omega)
      | false =>
        have hrun : spRun l i = k := by
          have h1 : spRun l k = spRun l i := hinv2
          rw [← h1]
          exact runF_stop hc
        rw [hc] at hsp
        clear hinv2 hn hr2 s0 s1 s6 b6 s7
        have hinv' : scanF (urlS l) l.length i acc = R := hinv
        have hT := text_L (AccOK.CL hacc (by omega))
        by_cases hgo : k < l.length ∧ l.getD k 0 ≠ 41 ∧ badU l i k = false
        · obtain ⟨g1, g2, g3⟩ := hgo
          obtain ⟨d1, d2, d3⟩ := h.at g1
          have g1' : ¬ (k : Int) ≥ l.length := by omega
          have g1'' : (k : Int) < l.length := by omega
          have g2' : (l.getD k 0 == 41) = false := by rw [beq_eq_false_iff_ne]; exact g2
          have hV := val_L h k (by omega)
          have hvp := val_pos g1
          have hvr := val_rng h g1
          have hEs := esc_L h k (by omega)
          have hHd := hid_L (l.getD k 0)
          have hs : urlS l i acc = (if l.getD k 0 = 92 then some ((valF l k).2, acc ++ [(valF l k).1]) else some (k + 1, acc ++ [l.getD k 0])) := by
            unfold urlS
            rw [hrun, if_pos ⟨g1, g2, g3⟩]
          unfold badU at g3
          simp only [Bool.or_eq_false_iff, decide_eq_false_iff_not] at g3
          obtain ⟨⟨⟨⟨⟨n1, n2⟩, n3⟩, n4⟩, n5⟩, n6⟩ := g3
          have n1' : ¬ (k : Int) > i := by omega
          rw [n5] at hHd
          have hsz := szI64 acc
          have hfit : (acc.map (D.int .i64)).length ≤ 1073741823 := by have := AccOK.len hacc; simp; omega
          have hap1 : acc.map (D.int .i64) ++ [.int .i64 (l.getD k 0)] = (acc ++ [l.getD k 0]).map (D.int .i64) := by simp
          have hap2 : acc.map (D.int .i64) ++ [.int .i64 (valF l k).1] = (acc ++ [(valF l k).1]).map (D.int .i64) := by simp
          by_cases c1 : l.getD k 0 = 92
          · rw [if_pos c1] at hs
            have T : Hd (scanF (urlS l) l.length (valF l k).2 (acc ++ [(valF l k).1]) = R) := by
              rw [(url_goes l).step hs] at hinv'
              exact hinv'
            have c1' : (l.getD k 0 == 92) = true := by rw [beq_iff_eq]; exact c1
            rw [c1', Bool.true_and, Bool.not_eq_false'] at n6
            rw [n6] at hEs
            have k4 := Hd.mk (AccOK.snoc hacc (show i + 1 ≤ (valF l k).2 by omega) hvr)
            obtain ⟨v1, v2⟩ := hvp
            clear hinv hinv' hs hacc h g2 hap1 c1 n1 n5 hvr hr
            generalize (valF l k).1 = vc at *
            generalize (valF l k).2 = vp at *
            generalize l.getD k 0 = x at *
            rcases hrm with hrm | hrm
            all_goals
              repeat' (first
    | simp only [*, go_nil, go_seq, go_cond, go_exit, go_xcode, go_region, go_ops_nil, go_ops, okG_some, cwD_bool, gw_false, guardG, opG, isPtr, inB, sval, stake, eats, eaters, get, St.taken, put_slot, dem_none, ↓reduceIte, Nat.reduceEqDiff, Nat.reduceLT, decide_true, List.filterMap_cons, List.filterMap_nil, List.contains_nil, List.map_cons, List.map_nil, Bool.and_true, Nat.reduceBEq, Bool.false_eq_true, okR, callG, row9, frz9, frzOf_def, frz_nil, pureB, leaf, leafN, List.all_cons, List.all_nil, List.nil_append, List.append_nil, Bool.and_false]
    | (refine drW_intro (by kernel_rfl) ?_)
    | (refine gw_intro (fun h => ?_) (fun h => ?_) <;> (try simp only [beq_true, beq_false, Bool.not_eq_eq_eq_not, Bool.not_true, Bool.not_false, Bool.not_not, decide_eq_true_eq, decide_eq_false_iff_not, ge_iff_le, gt_iff_lt] at h)))
              refine hx _ _ ?_
              repeat' (first
    | simp only [*, go_nil, go_seq, go_cond, go_blk, go_skip, go_xblk, go_region, go_ops_nil, go_ops, okG_some, gwD_bool, cwD_bool, gw_true, gw_false, guardG, opG, isPtr, inB, sval, stake, eats, eaters, get, cval, cval1, croom, St.taken, put_slot, put_room, dem_none, dem_slot, dem_room, dem_room1, setBox_slot, setBox_room, ↓reduceIte, Nat.reduceEqDiff, Nat.reduceLT, Nat.reduceLeDiff, reduceCtorEq, decide_true, decide_false, List.filterMap_cons, List.filterMap_nil, Option.bind_some, Option.map_some, List.getElem?_cons_zero, List.getElem?_cons_succ, List.contains_cons, List.contains_nil, List.map_cons, List.map_nil, beq_self_eq_true, Bool.or_false, Bool.or_true, Bool.and_true, Nat.reduceBEq, Bool.false_eq_true, dbin, dIntBin, okR, callG, row9, frz9, frzOf_def, frz_nil, Bool.not_true, pureB, leaf, leafN, List.all_cons, List.all_nil, List.nil_append, List.append_nil, List.length_nil, List.length_cons, dun, dcells, Nat.zero_add, Bool.and_false, and_true, Int.natCast_nonneg, Int.toNat_natCast, and_self, or_true, or_false, szOk_cons, List.cons.injEq, List.getElem?_toArray, ge_iff_le, gt_iff_lt, dStrBin, dp3, ia44, len44, ap44, bs44]
    | (refine drW_intro (by kernel_rfl) ?_)
    | (refine gw_intro (fun h => ?_) (fun h => ?_) <;> (try simp only [beq_true, beq_false, Bool.not_eq_eq_eq_not, Bool.not_true, Bool.not_false, Bool.not_not, decide_eq_true_eq, decide_eq_false_iff_not, ge_iff_le, gt_iff_lt] at h)))
              refine HN _ ⟨vp, acc ++ [vc], v2, k4, ?_, ?_, ?_, ?_, ?_, ?_, ?_, T⟩ ?_
              all_goals first | (simp only [*, put_slot, put_room, put_box, dem_slot, dem_box, dem_room, ↓reduceIte, Nat.reduceEqDiff, reduceCtorEq, List.cons.injEq, and_true, or_true]; done) | (simp only [slotI, *, put_slot, ↓reduceIte]; omega)
          · rw [if_neg c1] at hs
            have T : Hd (scanF (urlS l) l.length (k + 1) (acc ++ [l.getD k 0]) = R) := by
              rw [(url_goes l).step hs] at hinv'
              exact hinv'
            have c1' : (l.getD k 0 == 92) = false := by rw [beq_eq_false_iff_ne]; exact c1
            have k4 := Hd.mk (AccOK.snoc hacc (show i + 1 ≤ k + 1 by omega) ⟨d1, d2⟩)
            clear hinv hinv' hs hacc h g2 hap2 c1 n1 n5 hvr hr hV hvp n6
            generalize l.getD k 0 = x at *
            rcases hrm with hrm | hrm
            all_goals
              repeat' (first
    | simp only [*, go_nil, go_seq, go_cond, go_exit, go_xcode, go_region, go_ops_nil, go_ops, okG_some, cwD_bool, gw_false, guardG, opG, isPtr, inB, sval, stake, eats, eaters, get, St.taken, put_slot, dem_none, ↓reduceIte, Nat.reduceEqDiff, Nat.reduceLT, decide_true, List.filterMap_cons, List.filterMap_nil, List.contains_nil, List.map_cons, List.map_nil, Bool.and_true, Nat.reduceBEq, Bool.false_eq_true, okR, callG, row9, frz9, frzOf_def, frz_nil, pureB, leaf, leafN, List.all_cons, List.all_nil, List.nil_append, List.append_nil, Bool.and_false]
    | (refine drW_intro (by kernel_rfl) ?_)
    | (refine gw_intro (fun h => ?_) (fun h => ?_) <;> (try simp only [beq_true, beq_false, Bool.not_eq_eq_eq_not, Bool.not_true, Bool.not_false, Bool.not_not, decide_eq_true_eq, decide_eq_false_iff_not, ge_iff_le, gt_iff_lt] at h)))
              refine hx _ _ ?_
              repeat' (first
    | simp only [*, go_nil, go_seq, go_cond, go_blk, go_skip, go_xblk, go_region, go_ops_nil, go_ops, okG_some, gwD_bool, cwD_bool, gw_true, gw_false, guardG, opG, isPtr, inB, sval, stake, eats, eaters, get, cval, cval1, croom, St.taken, put_slot, put_room, dem_none, dem_slot, dem_room, setBox_slot, setBox_room, ↓reduceIte, Nat.reduceEqDiff, Nat.reduceLT, Nat.reduceLeDiff, reduceCtorEq, decide_true, decide_false, List.filterMap_cons, List.filterMap_nil, Option.bind_some, Option.map_some, List.getElem?_cons_zero, List.getElem?_cons_succ, List.contains_cons, List.contains_nil, List.map_cons, List.map_nil, beq_self_eq_true, Bool.or_false, Bool.and_true, Nat.reduceBEq, Bool.false_eq_true, dbin, dIntBin, okR, callG, row9, frz9, frzOf_def, frz_nil, beq_true, pureB, leaf, leafN, List.all_cons, List.all_nil, List.nil_append, List.append_nil, List.length_nil, List.length_cons, dun, dcells, Nat.zero_add, Bool.and_false, and_true, Int.natCast_nonneg, Int.toNat_natCast, and_self, or_true, or_false, szOk_cons, List.cons.injEq, List.getElem?_toArray, ge_iff_le, gt_iff_lt, dStrBin, dp3, ia44, len44, ap44, bs44]
    | (refine drW_intro (by kernel_rfl) ?_)
    | (refine gw_intro (fun h => ?_) (fun h => ?_) <;> (try simp only [beq_true, beq_false, Bool.not_eq_eq_eq_not, Bool.not_true, Bool.not_false, Bool.not_not, decide_eq_true_eq, decide_eq_false_iff_not, ge_iff_le, gt_iff_lt] at h)))
              refine HN _ ⟨k + 1, acc ++ [x], g1, k4, ?_, ?_, ?_, ?_, ?_, ?_, ?_, T⟩ ?_
              all_goals first | (simp only [*, put_slot, put_room, put_box, dem_slot, dem_box, dem_room, ↓reduceIte, Nat.reduceEqDiff, reduceCtorEq, List.cons.injEq, and_true, or_true]; done) | (simp only [slotI, *, put_slot, ↓reduceIte]; omega)
        · have hend : R = (i, acc) := by rw [← hinv', scan_stop (by unfold urlS; rw [hrun, if_neg hgo])]
          have hE' := hE.out
          rw [hend] at hE'
          unfold urlE at hE'
          simp only [hrun] at hE'
          clear hinv hinv' hacc HN hrm HR hE hend
          by_cases g1 : l.length ≤ k
          · have g1' : (k : Int) ≥ l.length := by omega
            rw [if_pos g1] at hE'
            subst hE'
            unfold Tk.d tkD at *
            clear hgo g1 h
            generalize textS acc = tx at *
            repeat' (first
    | simp only [*, go_nil, go_seq, go_cond, go_exit, go_xcode, go_region, go_ops_nil, go_ops, okG_some, cwD_bool, gw_false, guardG, opG, isPtr, inB, sval, stake, eats, eaters, get, St.taken, put_slot, dem_none, ↓reduceIte, Nat.reduceEqDiff, Nat.reduceLT, decide_true, List.filterMap_cons, List.filterMap_nil, List.contains_nil, List.map_cons, List.map_nil, Bool.and_true, Nat.reduceBEq, Bool.false_eq_true, okR, callG, row9, frz9, frzOf_def, frz_nil, pureB, leaf, leafN, List.all_cons, List.all_nil, List.nil_append, List.append_nil, Bool.and_false]
    | (refine drW_intro (by kernel_rfl) ?_)
    | (refine gw_intro (fun h => ?_) (fun h => ?_) <;> (try simp only [beq_true, beq_false, Bool.not_eq_eq_eq_not, Bool.not_true, Bool.not_false, Bool.not_not, decide_eq_true_eq, decide_eq_false_iff_not, ge_iff_le, gt_iff_lt] at h)))
            refine hx _ _ ?_
            repeat' (first
    | simp only [*, go_seq, go_cond, go_retc, go_xblk, go_region, go_ops_nil, go_ops, okG_some, okB_some, cwD_bool, gw_true, guardG, opG, isPtr, inB, sval, stake, eats, eaters, get, cval, cval1, St.taken, put_slot, put_box, put_none, dem_none, ↓reduceIte, Nat.reduceEqDiff, Nat.reduceLT, Nat.reduceLeDiff, reduceCtorEq, decide_true, List.filterMap_cons, List.filterMap_nil, Option.map_some, List.contains_nil, List.map_cons, List.map_nil, Bool.and_true, Nat.reduceBEq, Bool.false_eq_true, dbin, dIntBin, okR, callG, row9, frz9, frzOf_def, frz_nil, pureB, leaf, leafN, List.all_cons, List.all_nil, List.nil_append, List.append_nil, List.length_nil, List.length_cons, List.take_zero, List.drop_zero, List.drop_succ_cons, dcells, Nat.zero_add, Nat.reduceAdd, stepBox, Bool.and_false, and_self, ge_iff_le, len44, ty56, bd56_0123]
    | (refine drW_intro (by kernel_rfl) ?_)
    | (refine gw_intro (fun h => ?_) (fun h => ?_) <;> (try simp only [beq_true, beq_false, Bool.not_eq_eq_eq_not, Bool.not_true, Bool.not_false, Bool.not_not, decide_eq_true_eq, decide_eq_false_iff_not, ge_iff_le, gt_iff_lt] at h)))
            refine hr _ ?_
            repeat' (first
    | simp only [*, put_slot, put_box, setBox_slot, setBox_box, endQ, endR, endV, rvars, rvar, room1, ↓reduceIte, Nat.reduceEqDiff, Option.map_some, List.map_nil, Bool.and_true, pureB, leaf, leafN, List.all_cons, List.all_nil, List.range_zero, and_self, dp56]
    | (refine drW_intro (by kernel_rfl) ?_)
    | (refine gw_intro (fun h => ?_) (fun h => ?_) <;> (try simp only [beq_true, beq_false, Bool.not_eq_eq_eq_not, Bool.not_true, Bool.not_false, Bool.not_not, decide_eq_true_eq, decide_eq_false_iff_not, ge_iff_le, gt_iff_lt] at h)))
          · have g1l : k < l.length := by omega
            obtain ⟨d1, d2, d3⟩ := h.at g1l
            have g1' : ¬ (k : Int) ≥ l.length := by omega
            have g1'' : (k : Int) < l.length := by omega
            rw [if_neg g1] at hE'
            by_cases g2 : l.getD k 0 = 41
            · have g2' : (l.getD k 0 == 41) = true := by rw [beq_iff_eq]; exact g2
              rw [if_pos g2] at hE'
              subst hE'
              unfold Tk.d tkD at *
              clear hgo g1 h g2
              generalize textS acc = tx at *
              generalize l.getD k 0 = x at *
              repeat' (first
    | simp only [*, go_nil, go_seq, go_cond, go_exit, go_xcode, go_region, go_ops_nil, go_ops, okG_some, cwD_bool, gw_false, guardG, opG, isPtr, inB, sval, stake, eats, eaters, get, St.taken, put_slot, dem_none, ↓reduceIte, Nat.reduceEqDiff, Nat.reduceLT, decide_true, List.filterMap_cons, List.filterMap_nil, List.contains_nil, List.map_cons, List.map_nil, Bool.and_true, Nat.reduceBEq, Bool.false_eq_true, okR, callG, row9, frz9, frzOf_def, frz_nil, pureB, leaf, leafN, List.all_cons, List.all_nil, List.nil_append, List.append_nil, Bool.and_false]
    | (refine drW_intro (by kernel_rfl) ?_)
    | (refine gw_intro (fun h => ?_) (fun h => ?_) <;> (try simp only [beq_true, beq_false, Bool.not_eq_eq_eq_not, Bool.not_true, Bool.not_false, Bool.not_not, decide_eq_true_eq, decide_eq_false_iff_not, ge_iff_le, gt_iff_lt] at h)))
              refine hx _ _ ?_
              repeat' (first
    | simp only [*, go_seq, go_cond, go_skip, go_retc, go_xblk, go_region, go_ops_nil, go_ops, okG_some, okB_some, cwD_bool, gw_true, gw_false, guardG, opG, isPtr, inB, sval, stake, eats, eaters, get, cval, cval1, St.taken, put_slot, put_box, put_none, dem_none, ↓reduceIte, Nat.reduceEqDiff, Nat.reduceLT, Nat.reduceLeDiff, reduceCtorEq, decide_true, decide_false, List.filterMap_cons, List.filterMap_nil, Option.map_some, List.getElem?_cons_zero, List.contains_nil, List.map_cons, List.map_nil, Bool.and_true, Nat.reduceBEq, Bool.false_eq_true, dbin, dIntBin, okR, callG, row9, frz9, frzOf_def, frz_nil, pureB, leaf, leafN, List.all_cons, List.all_nil, List.nil_append, List.append_nil, List.length_nil, List.length_cons, List.take_zero, List.drop_zero, List.drop_succ_cons, dcells, Nat.zero_add, Nat.reduceAdd, stepBox, Bool.and_false, Int.natCast_nonneg, Int.toNat_natCast, and_self, ge_iff_le, dp3, ia44, len44, ty56, bd56_0123]
    | (refine drW_intro (by kernel_rfl) ?_)
    | (refine gw_intro (fun h => ?_) (fun h => ?_) <;> (try simp only [beq_true, beq_false, Bool.not_eq_eq_eq_not, Bool.not_true, Bool.not_false, Bool.not_not, decide_eq_true_eq, decide_eq_false_iff_not, ge_iff_le, gt_iff_lt] at h)))
              refine hr _ ?_
              repeat' (first
    | simp only [*, put_slot, put_box, setBox_slot, setBox_box, endQ, endR, endV, rvars, rvar, room1, ↓reduceIte, Nat.reduceEqDiff, Option.map_some, List.map_nil, Bool.and_true, pureB, leaf, leafN, List.all_cons, List.all_nil, List.range_zero, and_self, dp56]
    | (refine drW_intro (by kernel_rfl) ?_)
    | (refine gw_intro (fun h => ?_) (fun h => ?_) <;> (try simp only [beq_true, beq_false, Bool.not_eq_eq_eq_not, Bool.not_true, Bool.not_false, Bool.not_not, decide_eq_true_eq, decide_eq_false_iff_not, ge_iff_le, gt_iff_lt] at h)))
            · have g2' : (l.getD k 0 == 41) = false := by rw [beq_eq_false_iff_ne]; exact g2
              rw [if_neg g2] at hE'
              subst hE'
              have hRs := rest_L h fr k hkl
              have hHd := hid_L (l.getD k 0)
              have hEs := esc_L h k (by omega)
              have hb : badU l i k = true := by
                cases hbb : badU l i k with
                | true => rfl
                | false => exact absurd ⟨g1l, g2, hbb⟩ hgo
              unfold badU at hb
              unfold Tk.d at *
              unfold tkD at *
              clear hgo g1 h g2 hT
              generalize escB l k = eb at *
              generalize restF l k = rf at *
              generalize l.getD k 0 = x at *
              generalize hidC x = hb4 at *
              have key : ((k : Int) > i) ∨ (¬ (k : Int) > i ∧ (x == 34) = true) ∨ (¬ (k : Int) > i ∧ (x == 34) = false ∧ (x == 39) = true) ∨ (¬ (k : Int) > i ∧ (x == 34) = false ∧ (x == 39) = false ∧ (x == 40) = true) ∨
                  (¬ (k : Int) > i ∧ (x == 34) = false ∧ (x == 39) = false ∧ (x == 40) = false ∧ hb4 = true) ∨ (¬ (k : Int) > i ∧ (x == 34) = false ∧ (x == 39) = false ∧ (x == 40) = false ∧ hb4 = false ∧ (x == 92) = true ∧ eb = false) := by
                by_cases y1 : (k : Int) > i
                · exact .inl y1
                · have y1' : decide (i < k) = false := by rw [decide_eq_false_iff_not]; omega
                  rw [y1', Bool.false_or] at hb
                  cases y2 : (x == 34) with
                  | true => exact .inr (.inl ⟨y1, rfl⟩)
                  | false =>
                    rw [y2, Bool.false_or] at hb
                    cases y3 : (x == 39) with
                    | true => exact .inr (.inr (.inl ⟨y1, rfl, rfl⟩))
                    | false =>
                      rw [y3, Bool.false_or] at hb
                      cases y4 : (x == 40) with
                      | true => exact .inr (.inr (.inr (.inl ⟨y1, rfl, rfl, rfl⟩)))
                      | false =>
                        rw [y4, Bool.false_or] at hb
                        cases y5 : hb4 with
                        | true => exact .inr (.inr (.inr (.inr (.inl ⟨y1, rfl, rfl, rfl, rfl⟩))))
                        | false =>
                          rw [y5, Bool.false_or] at hb
                          simp only [Bool.and_eq_true, Bool.not_eq_true'] at hb
                          exact .inr (.inr (.inr (.inr (.inr ⟨y1, rfl, rfl, rfl, rfl, hb.1, hb.2⟩))))
              clear hb
              rcases key with y1 | ⟨y1, y2⟩ | ⟨y1, y2, y3⟩ | ⟨y1, y2, y3, y4⟩ | ⟨y1, y2, y3, y4, rfl⟩ | ⟨y1, y2, y3, y4, rfl, y6, rfl⟩
              all_goals
                repeat' (first
    | simp only [*, go_nil, go_seq, go_cond, go_exit, go_xcode, go_region, go_ops_nil, go_ops, okG_some, cwD_bool, gw_false, guardG, opG, isPtr, inB, sval, stake, eats, eaters, get, St.taken, put_slot, dem_none, ↓reduceIte, Nat.reduceEqDiff, Nat.reduceLT, decide_true, List.filterMap_cons, List.filterMap_nil, List.contains_nil, List.map_cons, List.map_nil, Bool.and_true, Nat.reduceBEq, Bool.false_eq_true, okR, callG, row9, frz9, frzOf_def, frz_nil, pureB, leaf, leafN, List.all_cons, List.all_nil, List.nil_append, List.append_nil, Bool.and_false]
    | (refine drW_intro (by kernel_rfl) ?_)
    | (refine gw_intro (fun h => ?_) (fun h => ?_) <;> (try simp only [beq_true, beq_false, Bool.not_eq_eq_eq_not, Bool.not_true, Bool.not_false, Bool.not_not, decide_eq_true_eq, decide_eq_false_iff_not, ge_iff_le, gt_iff_lt] at h)))
                refine hx _ _ ?_
                repeat' (first
    | simp only [*, go_seq, go_cond, go_skip, go_retc, go_xblk, go_region, go_ops_nil, go_ops, okG_some, okB_some, gwD_bool, gwD_undef, cwD_bool, gw_true, gw_false, guardG, opG, isPtr, inB, sval, stake, eats, eaters, get, cval, cval1, croom, St.taken, put_slot, put_room, put_box, put_none, dem_none, dem_slot, dem_box, dem_room, setBox_slot, setBox_room, ↓reduceIte, Nat.reduceEqDiff, Nat.reduceLT, Nat.reduceLeDiff, reduceCtorEq, decide_true, decide_false, List.filterMap_cons, List.filterMap_nil, Option.bind_some, Option.map_some, List.getElem?_cons_zero, List.getElem?_cons_succ, List.contains_nil, List.map_cons, List.map_nil, beq_self_eq_true, Bool.and_true, Nat.reduceBEq, Bool.false_eq_true, dbin, dIntBin, okR, callG, row9, frz9, frzOf_def, frz_nil, beq_false, Bool.not_true, Bool.not_false, pureB, leaf, leafN, List.all_cons, List.all_nil, List.nil_append, List.append_nil, List.length_nil, List.length_cons, dun, List.take_zero, List.drop_zero, List.drop_succ_cons, dcells, Nat.zero_add, Nat.reduceAdd, stepBox, Bool.and_false, Int.natCast_nonneg, Int.toNat_natCast, and_self, ge_iff_le, gt_iff_lt, dStrBin, dp3, ia44, len44, ty56]
    | (refine drW_intro (by kernel_rfl) ?_)
    | (refine gw_intro (fun h => ?_) (fun h => ?_) <;> (try simp only [beq_true, beq_false, Bool.not_eq_eq_eq_not, Bool.not_true, Bool.not_false, Bool.not_not, decide_eq_true_eq, decide_eq_false_iff_not, ge_iff_le, gt_iff_lt] at h)))
                refine hr _ ?_
                repeat' (first
    | simp only [*, put_slot, put_box, dem_slot, dem_box, setBox_slot, setBox_box, endQ, endR, endV, rvars, rvar, room1, ↓reduceIte, Nat.reduceEqDiff, Option.map_some, List.map_nil, Bool.and_true, pureB, leaf, leafN, List.all_cons, List.all_nil, List.range_zero, and_self, dp56]
    | (refine drW_intro (by kernel_rfl) ?_)
    | (refine gw_intro (fun h => ?_) (fun h => ?_) <;> (try simp only [beq_true, beq_false, Bool.not_eq_eq_eq_not, Bool.not_true, Bool.not_false, Bool.not_not, decide_eq_true_eq, decide_eq_false_iff_not, ge_iff_le, gt_iff_lt] at h)))
end Go.Av
