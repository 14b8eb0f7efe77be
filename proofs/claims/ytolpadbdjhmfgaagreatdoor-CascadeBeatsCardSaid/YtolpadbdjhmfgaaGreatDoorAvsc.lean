/- The evaluator, in one text: over any program; no conditions but those that each law names. -/
import Derived.Test.YtolpadbdjhmfgaaGreatDoorAvsb
import Derived.Test.YtolpadbdjhmfgaaGreatDoorRows
import Derived.Test.YtolpadbdjhmfgaaGreatDoorTie
import Derived.Test.YtolpadbdjhmfgaaGreatDoorAvb
set_option linter.unusedSimpArgs false
set_option linter.unusedVariables false
set_option linter.unusedSectionVars false
/- Chapter 21: the program's Beats, the document's. -/
set_option linter.unusedSimpArgs false
set_option linter.unusedVariables false
set_option linter.unusedSectionVars false
set_option maxRecDepth 100000
namespace Go.Av
open Go.Proofs Go.RowKit
set_option maxHeartbeats 4000000 in
theorem beats_L (a0 : Bool) (a1 a2 a3 a4 a5 : Int) (b0 : Bool) (b1 b2 b3 b4 b5 : Int) : callL Tryz.prog ext21 8 [.agg [.bool a0, .int .i64 a1, .int .i64 a2, .int .i64 a3, .int .i64 a4, .int .i64 a5], .agg [.bool b0, .int .i64 b1, .int .i64 b2, .int .i64 b3, .int .i64 b4, .int .i64 b5]] [] = some (.bool (beatsF a0 a1 a2 a3 a4 a5 b0 b1 b2 b3 b4 b5), [.no], []) := by
  have r1 := rank_L a0
  have r2 := rank_L b0
  have c0 := cmp_L (rankF a0) (rankF b0)
  have hl := less_L b1 b2 b3 a1 a2 a3
  have c4 := cmp_L a4 b4
  have c5 := cmp_L a5 b5
  have ho := or_L [cmpF a4 b4, cmpF a5 b5] (by simp)
  simp only [List.map_cons, List.map_nil] at ho
  unfold beatsF
  rw [← or2]
  generalize lessF b1 b2 b3 a1 a2 a3 = ls at *
  generalize orF [cmpF a4 b4, cmpF a5 b5] = o at *
  generalize cmpF a4 b4 = k4 at *
  generalize cmpF a5 b5 = k5 at *
  rw [cmp_rank] at c0
  have hs := and3 a1 a2 a3 b1 b2 b3
  refine callK (m := 40) (res := [4]) (rs := [.tmp 4]) rfl Tryz.func8 rfl rfl rfl rfl rfl ?_
  by_cases h0 : a0 = b0
  · subst h0
    rw [if_pos rfl] at c0
    rw [if_neg (by simp)]
    have z : ((0 : Int) != 0) = false := rfl
    by_cases h1 : a1 = b1 ∧ a2 = b2 ∧ a3 = b3
    · rw [decide_eq_true h1] at hs
      rw [if_neg (fun h => h h1)]
      clear h1
      by_cases hk : o > 0
      · repeat' (first
    | simp only [*, go_nil, go_seq, go_cond, go_block, go_blk, go_skip, go_exit, go_retc, go_xcode, go_xblk, go_loop, go_region, go_draw, go_ops_nil, go_dops_nil, go_ops, go_dops, okG_some, okB_some, gwD_bool, gwD_undef, cwD_bool, gw_true, gw_false, guardG_none, guardG, opG, opD, isPtr, inB, sval, stake, eats, eaters, get, cval, cval1, croom, St.taken, put_slot, put_room, put_box, put_ctr, put_none, dem_none, dem_slot, dem_box, dem_ctr, dem_room, dem_room1, setBox_slot, setBox_room, setBox_ctr, setBox_box, entry_slot, entry_room, entry_box, entry_ctr, endQ, endR, endV, rvars, rvar, room1, ↓reduceIte, Nat.reduceEqDiff, Nat.reduceLT, Nat.reduceLeDiff, reduceCtorEq, decide_true, decide_false, List.filterMap_cons, List.filterMap_nil, Option.bind_some, Option.map_some, Option.bind_none, Option.map_none, List.getElem?_cons_zero, List.getElem?_cons_succ, List.getD_cons_zero, List.getD_cons_succ, List.contains_cons, List.contains_nil, List.map_cons, List.map_nil, beq_self_eq_true, beq_iff_eq, Bool.or_false, Bool.false_or, Bool.or_true, Bool.true_or, Bool.and_true, Bool.true_and, Nat.reduceBEq, Bool.false_eq_true, dbin, dIntBin, okR, callG, endN, newV, rowS, frzS, frzOf_def, frz_nil, frz_cons, frzD, rowList, rowElem, stepRow, madeRow, isLocal, isAlloc, loadsOwn, ptrAt, beq_true, beq_false, Bool.not_true, Bool.not_false, pureB, leaf, leafN, List.all_cons, List.all_nil, List.nil_append, List.cons_append, List.append_nil, List.take_nil, List.range_zero, List.length_nil, List.length_cons, String.reduceBEq, Bool.true_beq, Bool.false_beq, List.find?_cons, List.find?_nil, dun, List.getElem?_nil, List.take_zero, List.drop_zero, List.take_succ_cons, List.drop_succ_cons, dcells, Nat.zero_add, Nat.reduceAdd, Nat.reduceSub, Nat.reduceMul, stepBox, Bool.and_false, Bool.false_and, and_true, true_and, List.zipWith, Option.getD_some, List.singleton_append, List.map_map, Int.natCast_nonneg, Int.toNat_natCast, and_self, Nat.mul_one, Nat.add_zero, if_true, St.freeze, false_or, or_true, true_or, or_false, szOk_cons, szOk_nil, List.cons.injEq, false_and, and_false, forall_const, List.getElem?_toArray, List.getElem_toArray, dopt, dbound, ge_iff_le, gt_iff_lt, dStrBin, List.take_length, plainR_s, Int.reduceLE, Int.reduceLT, Int.reduceToNat, Int.reduceBEq, Int.reduceBNe, isBar, optIn, allocKeys, takes, ptrArgs, callArgs, ptrIn_nil, ptrIn_int, ptrIn_bool, ptrIn_str, ptrIn_agg, ptrIn_list, ptrIn_fix, ptrIn_con, ptrIn_ptr, ptrIn1, ren, ren1, argOk, argOk1, given, oroom, putR, padR, clearR, vroom, nilR, Option.isSome_none, Option.isSome_some, stepTake, stepPtr, notAgg, ite_self, ty3, dp3, ty4, dp4, ty23, dp23, fa23_0, fp23_0, fa23_1, fp23_1, fa23_2, fp23_2, ty25, dp25, fa25_0, fp25_0, fa25_1, fp25_1, fa25_2, fp25_2, fa25_3, fp25_3, dp23_1_6, ty53, dp53, ia53, len53, bs53_2, bs53_3, frzOps_nil, neq23, neq25, eq23, eq25, Nat.le_refl, Nat.sub_self, Option.some.injEq]
    | (refine drW_intro (by kernel_rfl) ?_)
    | (refine gw_intro (fun h => ?_) (fun h => ?_) <;> (try simp only [beq_true, beq_false, Bool.not_eq_eq_eq_not, Bool.not_true, Bool.not_false, Bool.not_not, decide_eq_true_eq, decide_eq_false_iff_not, ge_iff_le, gt_iff_lt] at h)))
      · repeat' (first
    | simp only [*, go_nil, go_seq, go_cond, go_block, go_blk, go_skip, go_exit, go_retc, go_xcode, go_xblk, go_loop, go_region, go_draw, go_ops_nil, go_dops_nil, go_ops, go_dops, okG_some, okB_some, gwD_bool, gwD_undef, cwD_bool, gw_true, gw_false, guardG_none, guardG, opG, opD, isPtr, inB, sval, stake, eats, eaters, get, cval, cval1, croom, St.taken, put_slot, put_room, put_box, put_ctr, put_none, dem_none, dem_slot, dem_box, dem_ctr, dem_room, dem_room1, setBox_slot, setBox_room, setBox_ctr, setBox_box, entry_slot, entry_room, entry_box, entry_ctr, endQ, endR, endV, rvars, rvar, room1, ↓reduceIte, Nat.reduceEqDiff, Nat.reduceLT, Nat.reduceLeDiff, reduceCtorEq, decide_true, decide_false, List.filterMap_cons, List.filterMap_nil, Option.bind_some, Option.map_some, Option.bind_none, Option.map_none, List.getElem?_cons_zero, List.getElem?_cons_succ, List.getD_cons_zero, List.getD_cons_succ, List.contains_cons, List.contains_nil, List.map_cons, List.map_nil, beq_self_eq_true, beq_iff_eq, Bool.or_false, Bool.false_or, Bool.or_true, Bool.true_or, Bool.and_true, Bool.true_and, Nat.reduceBEq, Bool.false_eq_true, dbin, dIntBin, okR, callG, endN, newV, rowS, frzS, frzOf_def, frz_nil, frz_cons, frzD, rowList, rowElem, stepRow, madeRow, isLocal, isAlloc, loadsOwn, ptrAt, beq_true, beq_false, Bool.not_true, Bool.not_false, pureB, leaf, leafN, List.all_cons, List.all_nil, List.nil_append, List.cons_append, List.append_nil, List.take_nil, List.range_zero, List.length_nil, List.length_cons, String.reduceBEq, Bool.true_beq, Bool.false_beq, List.find?_cons, List.find?_nil, dun, List.getElem?_nil, List.take_zero, List.drop_zero, List.take_succ_cons, List.drop_succ_cons, dcells, Nat.zero_add, Nat.reduceAdd, Nat.reduceSub, Nat.reduceMul, stepBox, Bool.and_false, Bool.false_and, and_true, true_and, List.zipWith, Option.getD_some, List.singleton_append, List.map_map, Int.natCast_nonneg, Int.toNat_natCast, and_self, Nat.mul_one, Nat.add_zero, if_true, St.freeze, false_or, or_true, true_or, or_false, szOk_cons, szOk_nil, List.cons.injEq, false_and, and_false, forall_const, List.getElem?_toArray, List.getElem_toArray, dopt, dbound, ge_iff_le, gt_iff_lt, dStrBin, List.take_length, plainR_s, Int.reduceLE, Int.reduceLT, Int.reduceToNat, Int.reduceBEq, Int.reduceBNe, isBar, optIn, allocKeys, takes, ptrArgs, callArgs, ptrIn_nil, ptrIn_int, ptrIn_bool, ptrIn_str, ptrIn_agg, ptrIn_list, ptrIn_fix, ptrIn_con, ptrIn_ptr, ptrIn1, ren, ren1, argOk, argOk1, given, oroom, putR, padR, clearR, vroom, nilR, Option.isSome_none, Option.isSome_some, stepTake, stepPtr, notAgg, ite_self, ty3, dp3, ty4, dp4, ty23, dp23, fa23_0, fp23_0, fa23_1, fp23_1, fa23_2, fp23_2, ty25, dp25, fa25_0, fp25_0, fa25_1, fp25_1, fa25_2, fp25_2, fa25_3, fp25_3, dp23_1_6, ty53, dp53, ia53, len53, bs53_2, bs53_3, frzOps_nil, neq23, neq25, eq23, eq25, Nat.le_refl, Nat.sub_self, Option.some.injEq]
    | (refine drW_intro (by kernel_rfl) ?_)
    | (refine gw_intro (fun h => ?_) (fun h => ?_) <;> (try simp only [beq_true, beq_false, Bool.not_eq_eq_eq_not, Bool.not_true, Bool.not_false, Bool.not_not, decide_eq_true_eq, decide_eq_false_iff_not, ge_iff_le, gt_iff_lt] at h)))
    · rw [decide_eq_false h1] at hs
      rw [if_pos h1]
      clear h1
      repeat' (first
    | simp only [*, go_nil, go_seq, go_cond, go_block, go_blk, go_skip, go_exit, go_retc, go_xcode, go_xblk, go_loop, go_region, go_draw, go_ops_nil, go_dops_nil, go_ops, go_dops, okG_some, okB_some, gwD_bool, gwD_undef, cwD_bool, gw_true, gw_false, guardG_none, guardG, opG, opD, isPtr, inB, sval, stake, eats, eaters, get, cval, cval1, croom, St.taken, put_slot, put_room, put_box, put_ctr, put_none, dem_none, dem_slot, dem_box, dem_ctr, dem_room, dem_room1, setBox_slot, setBox_room, setBox_ctr, setBox_box, entry_slot, entry_room, entry_box, entry_ctr, endQ, endR, endV, rvars, rvar, room1, ↓reduceIte, Nat.reduceEqDiff, Nat.reduceLT, Nat.reduceLeDiff, reduceCtorEq, decide_true, decide_false, List.filterMap_cons, List.filterMap_nil, Option.bind_some, Option.map_some, Option.bind_none, Option.map_none, List.getElem?_cons_zero, List.getElem?_cons_succ, List.getD_cons_zero, List.getD_cons_succ, List.contains_cons, List.contains_nil, List.map_cons, List.map_nil, beq_self_eq_true, beq_iff_eq, Bool.or_false, Bool.false_or, Bool.or_true, Bool.true_or, Bool.and_true, Bool.true_and, Nat.reduceBEq, Bool.false_eq_true, dbin, dIntBin, okR, callG, endN, newV, rowS, frzS, frzOf_def, frz_nil, frz_cons, frzD, rowList, rowElem, stepRow, madeRow, isLocal, isAlloc, loadsOwn, ptrAt, beq_true, beq_false, Bool.not_true, Bool.not_false, pureB, leaf, leafN, List.all_cons, List.all_nil, List.nil_append, List.cons_append, List.append_nil, List.take_nil, List.range_zero, List.length_nil, List.length_cons, String.reduceBEq, Bool.true_beq, Bool.false_beq, List.find?_cons, List.find?_nil, dun, List.getElem?_nil, List.take_zero, List.drop_zero, List.take_succ_cons, List.drop_succ_cons, dcells, Nat.zero_add, Nat.reduceAdd, Nat.reduceSub, Nat.reduceMul, stepBox, Bool.and_false, Bool.false_and, and_true, true_and, List.zipWith, Option.getD_some, List.singleton_append, List.map_map, Int.natCast_nonneg, Int.toNat_natCast, and_self, Nat.mul_one, Nat.add_zero, if_true, St.freeze, false_or, or_true, true_or, or_false, szOk_cons, szOk_nil, List.cons.injEq, false_and, and_false, forall_const, List.getElem?_toArray, List.getElem_toArray, dopt, dbound, ge_iff_le, gt_iff_lt, dStrBin, List.take_length, plainR_s, Int.reduceLE, Int.reduceLT, Int.reduceToNat, Int.reduceBEq, Int.reduceBNe, isBar, optIn, allocKeys, takes, ptrArgs, callArgs, ptrIn_nil, ptrIn_int, ptrIn_bool, ptrIn_str, ptrIn_agg, ptrIn_list, ptrIn_fix, ptrIn_con, ptrIn_ptr, ptrIn1, ren, ren1, argOk, argOk1, given, oroom, putR, padR, clearR, vroom, nilR, Option.isSome_none, Option.isSome_some, stepTake, stepPtr, notAgg, ite_self, ty3, dp3, ty4, dp4, ty23, dp23, fa23_0, fp23_0, fa23_1, fp23_1, fa23_2, fp23_2, ty25, dp25, fa25_0, fp25_0, fa25_1, fp25_1, fa25_2, fp25_2, fa25_3, fp25_3, dp23_1_6, ty53, dp53, ia53, len53, bs53_2, bs53_3, frzOps_nil, neq23, neq25, eq23, eq25, Nat.le_refl, Nat.sub_self, Option.some.injEq]
    | (refine drW_intro (by kernel_rfl) ?_)
    | (refine gw_intro (fun h => ?_) (fun h => ?_) <;> (try simp only [beq_true, beq_false, Bool.not_eq_eq_eq_not, Bool.not_true, Bool.not_false, Bool.not_not, decide_eq_true_eq, decide_eq_false_iff_not, ge_iff_le, gt_iff_lt] at h)))
  · rw [if_neg h0] at c0
    rw [if_pos h0]
    have z : ((1 : Int) != 0) = true := rfl
    have z' : ((-1 : Int) != 0) = true := rfl
    have q : ((1 : Int) > 0) = True := by simp
    have q' : ((-1 : Int) > 0) = False := by simp
    clear h0
    cases a0
    · rw [if_neg (by simp)] at c0
      repeat' (first
    | simp only [*, go_nil, go_seq, go_cond, go_block, go_blk, go_skip, go_exit, go_retc, go_xcode, go_xblk, go_loop, go_region, go_draw, go_ops_nil, go_dops_nil, go_ops, go_dops, okG_some, okB_some, gwD_bool, gwD_undef, cwD_bool, gw_true, gw_false, guardG_none, guardG, opG, opD, isPtr, inB, sval, stake, eats, eaters, get, cval, cval1, croom, St.taken, put_slot, put_room, put_box, put_ctr, put_none, dem_none, dem_slot, dem_box, dem_ctr, dem_room, dem_room1, setBox_slot, setBox_room, setBox_ctr, setBox_box, entry_slot, entry_room, entry_box, entry_ctr, endQ, endR, endV, rvars, rvar, room1, ↓reduceIte, Nat.reduceEqDiff, Nat.reduceLT, Nat.reduceLeDiff, reduceCtorEq, decide_true, decide_false, List.filterMap_cons, List.filterMap_nil, Option.bind_some, Option.map_some, Option.bind_none, Option.map_none, List.getElem?_cons_zero, List.getElem?_cons_succ, List.getD_cons_zero, List.getD_cons_succ, List.contains_cons, List.contains_nil, List.map_cons, List.map_nil, beq_self_eq_true, beq_iff_eq, Bool.or_false, Bool.false_or, Bool.or_true, Bool.true_or, Bool.and_true, Bool.true_and, Nat.reduceBEq, Bool.false_eq_true, dbin, dIntBin, okR, callG, endN, newV, rowS, frzS, frzOf_def, frz_nil, frz_cons, frzD, rowList, rowElem, stepRow, madeRow, isLocal, isAlloc, loadsOwn, ptrAt, beq_true, beq_false, Bool.not_true, Bool.not_false, pureB, leaf, leafN, List.all_cons, List.all_nil, List.nil_append, List.cons_append, List.append_nil, List.take_nil, List.range_zero, List.length_nil, List.length_cons, String.reduceBEq, Bool.true_beq, Bool.false_beq, List.find?_cons, List.find?_nil, dun, List.getElem?_nil, List.take_zero, List.drop_zero, List.take_succ_cons, List.drop_succ_cons, dcells, Nat.zero_add, Nat.reduceAdd, Nat.reduceSub, Nat.reduceMul, stepBox, Bool.and_false, Bool.false_and, and_true, true_and, List.zipWith, Option.getD_some, List.singleton_append, List.map_map, Int.natCast_nonneg, Int.toNat_natCast, and_self, Nat.mul_one, Nat.add_zero, if_true, St.freeze, false_or, or_true, true_or, or_false, szOk_cons, szOk_nil, List.cons.injEq, false_and, and_false, forall_const, List.getElem?_toArray, List.getElem_toArray, dopt, dbound, ge_iff_le, gt_iff_lt, dStrBin, List.take_length, plainR_s, Int.reduceLE, Int.reduceLT, Int.reduceToNat, Int.reduceBEq, Int.reduceBNe, isBar, optIn, allocKeys, takes, ptrArgs, callArgs, ptrIn_nil, ptrIn_int, ptrIn_bool, ptrIn_str, ptrIn_agg, ptrIn_list, ptrIn_fix, ptrIn_con, ptrIn_ptr, ptrIn1, ren, ren1, argOk, argOk1, given, oroom, putR, padR, clearR, vroom, nilR, Option.isSome_none, Option.isSome_some, stepTake, stepPtr, notAgg, ite_self, ty3, dp3, ty4, dp4, ty23, dp23, fa23_0, fp23_0, fa23_1, fp23_1, fa23_2, fp23_2, ty25, dp25, fa25_0, fp25_0, fa25_1, fp25_1, fa25_2, fp25_2, fa25_3, fp25_3, dp23_1_6, ty53, dp53, ia53, len53, bs53_2, bs53_3, frzOps_nil, neq23, neq25, eq23, eq25, Nat.le_refl, Nat.sub_self, Option.some.injEq]
    | (refine drW_intro (by kernel_rfl) ?_)
    | (refine gw_intro (fun h => ?_) (fun h => ?_) <;> (try simp only [beq_true, beq_false, Bool.not_eq_eq_eq_not, Bool.not_true, Bool.not_false, Bool.not_not, decide_eq_true_eq, decide_eq_false_iff_not, ge_iff_le, gt_iff_lt] at h)))
    · rw [if_pos rfl] at c0
      repeat' (first
    | simp only [*, go_nil, go_seq, go_cond, go_block, go_blk, go_skip, go_exit, go_retc, go_xcode, go_xblk, go_loop, go_region, go_draw, go_ops_nil, go_dops_nil, go_ops, go_dops, okG_some, okB_some, gwD_bool, gwD_undef, cwD_bool, gw_true, gw_false, guardG_none, guardG, opG, opD, isPtr, inB, sval, stake, eats, eaters, get, cval, cval1, croom, St.taken, put_slot, put_room, put_box, put_ctr, put_none, dem_none, dem_slot, dem_box, dem_ctr, dem_room, dem_room1, setBox_slot, setBox_room, setBox_ctr, setBox_box, entry_slot, entry_room, entry_box, entry_ctr, endQ, endR, endV, rvars, rvar, room1, ↓reduceIte, Nat.reduceEqDiff, Nat.reduceLT, Nat.reduceLeDiff, reduceCtorEq, decide_true, decide_false, List.filterMap_cons, List.filterMap_nil, Option.bind_some, Option.map_some, Option.bind_none, Option.map_none, List.getElem?_cons_zero, List.getElem?_cons_succ, List.getD_cons_zero, List.getD_cons_succ, List.contains_cons, List.contains_nil, List.map_cons, List.map_nil, beq_self_eq_true, beq_iff_eq, Bool.or_false, Bool.false_or, Bool.or_true, Bool.true_or, Bool.and_true, Bool.true_and, Nat.reduceBEq, Bool.false_eq_true, dbin, dIntBin, okR, callG, endN, newV, rowS, frzS, frzOf_def, frz_nil, frz_cons, frzD, rowList, rowElem, stepRow, madeRow, isLocal, isAlloc, loadsOwn, ptrAt, beq_true, beq_false, Bool.not_true, Bool.not_false, pureB, leaf, leafN, List.all_cons, List.all_nil, List.nil_append, List.cons_append, List.append_nil, List.take_nil, List.range_zero, List.length_nil, List.length_cons, String.reduceBEq, Bool.true_beq, Bool.false_beq, List.find?_cons, List.find?_nil, dun, List.getElem?_nil, List.take_zero, List.drop_zero, List.take_succ_cons, List.drop_succ_cons, dcells, Nat.zero_add, Nat.reduceAdd, Nat.reduceSub, Nat.reduceMul, stepBox, Bool.and_false, Bool.false_and, and_true, true_and, List.zipWith, Option.getD_some, List.singleton_append, List.map_map, Int.natCast_nonneg, Int.toNat_natCast, and_self, Nat.mul_one, Nat.add_zero, if_true, St.freeze, false_or, or_true, true_or, or_false, szOk_cons, szOk_nil, List.cons.injEq, false_and, and_false, forall_const, List.getElem?_toArray, List.getElem_toArray, dopt, dbound, ge_iff_le, gt_iff_lt, dStrBin, List.take_length, plainR_s, Int.reduceLE, Int.reduceLT, Int.reduceToNat, Int.reduceBEq, Int.reduceBNe, isBar, optIn, allocKeys, takes, ptrArgs, callArgs, ptrIn_nil, ptrIn_int, ptrIn_bool, ptrIn_str, ptrIn_agg, ptrIn_list, ptrIn_fix, ptrIn_con, ptrIn_ptr, ptrIn1, ren, ren1, argOk, argOk1, given, oroom, putR, padR, clearR, vroom, nilR, Option.isSome_none, Option.isSome_some, stepTake, stepPtr, notAgg, ite_self, ty3, dp3, ty4, dp4, ty23, dp23, fa23_0, fp23_0, fa23_1, fp23_1, fa23_2, fp23_2, ty25, dp25, fa25_0, fp25_0, fa25_1, fp25_1, fa25_2, fp25_2, fa25_3, fp25_3, dp23_1_6, ty53, dp53, ia53, len53, bs53_2, bs53_3, frzOps_nil, neq23, neq25, eq23, eq25, Nat.le_refl, Nat.sub_self, Option.some.injEq]
    | (refine drW_intro (by kernel_rfl) ?_)
    | (refine gw_intro (fun h => ?_) (fun h => ?_) <;> (try simp only [beq_true, beq_false, Bool.not_eq_eq_eq_not, Bool.not_true, Bool.not_false, Bool.not_not, decide_eq_true_eq, decide_eq_false_iff_not, ge_iff_le, gt_iff_lt] at h)))
set_option maxHeartbeats 4000000 in
theorem rbeats_L (a0 : Bool) (a1 a2 a3 a4 a5 : Int) (b0 : Bool) (b1 b2 b3 b4 b5 : Int) : callL Tryz.prog ext21 9 [.agg [.bool a0, .int .i64 a1, .int .i64 a2, .int .i64 a3, .int .i64 a4, .int .i64 a5], .agg [.bool b0, .int .i64 b1, .int .i64 b2, .int .i64 b3, .int .i64 b4, .int .i64 b5]] [] = some (.bool (beatsF a0 a1 a2 a3 a4 a5 b0 b1 b2 b3 b4 b5), [.no], []) := by
  have hl := rless_L b1 b2 b3 a1 a2 a3
  unfold beatsF
  generalize lessF b1 b2 b3 a1 a2 a3 = ls at *
  have hs := and3 a1 a2 a3 b1 b2 b3
  refine callK (m := 37) (res := [4]) (rs := [.tmp 4]) rfl Tryz.func9 rfl rfl rfl rfl rfl ?_
  by_cases h0 : a0 = b0
  · have e0 : (a0 == b0) = true := by simp [h0]
    rw [if_neg (fun h => h h0)]
    clear h0
    by_cases h1 : a1 = b1 ∧ a2 = b2 ∧ a3 = b3
    · rw [decide_eq_true h1] at hs
      rw [if_neg (fun h => h h1)]
      clear h1
      by_cases h4 : a4 = b4
      · have e4 : (a4 != b4) = false := by simp [h4]
        rw [if_neg (fun h => h h4)]
        clear h4
        by_cases h5 : a5 > b5
        · repeat' (first
    | simp only [*, go_nil, go_seq, go_cond, go_block, go_blk, go_skip, go_exit, go_retc, go_xcode, go_xblk, go_loop, go_region, go_draw, go_ops_nil, go_dops_nil, go_ops, go_dops, okG_some, okB_some, gwD_bool, gwD_undef, cwD_bool, gw_true, gw_false, guardG_none, guardG, opG, opD, isPtr, inB, sval, stake, eats, eaters, get, cval, cval1, croom, St.taken, put_slot, put_room, put_box, put_ctr, put_none, dem_none, dem_slot, dem_box, dem_ctr, dem_room, dem_room1, setBox_slot, setBox_room, setBox_ctr, setBox_box, entry_slot, entry_room, entry_box, entry_ctr, endQ, endR, endV, rvars, rvar, room1, ↓reduceIte, Nat.reduceEqDiff, Nat.reduceLT, Nat.reduceLeDiff, reduceCtorEq, decide_true, decide_false, List.filterMap_cons, List.filterMap_nil, Option.bind_some, Option.map_some, Option.bind_none, Option.map_none, List.getElem?_cons_zero, List.getElem?_cons_succ, List.getD_cons_zero, List.getD_cons_succ, List.contains_cons, List.contains_nil, List.map_cons, List.map_nil, beq_self_eq_true, beq_iff_eq, Bool.or_false, Bool.false_or, Bool.or_true, Bool.true_or, Bool.and_true, Bool.true_and, Nat.reduceBEq, Bool.false_eq_true, dbin, dIntBin, okR, callG, endN, newV, rowS, frzS, frzOf_def, frz_nil, frz_cons, frzD, rowList, rowElem, stepRow, madeRow, isLocal, isAlloc, loadsOwn, ptrAt, beq_true, beq_false, Bool.not_true, Bool.not_false, pureB, leaf, leafN, List.all_cons, List.all_nil, List.nil_append, List.cons_append, List.append_nil, List.take_nil, List.range_zero, List.length_nil, List.length_cons, String.reduceBEq, Bool.true_beq, Bool.false_beq, List.find?_cons, List.find?_nil, dun, List.getElem?_nil, List.take_zero, List.drop_zero, List.take_succ_cons, List.drop_succ_cons, dcells, Nat.zero_add, Nat.reduceAdd, Nat.reduceSub, Nat.reduceMul, stepBox, Bool.and_false, Bool.false_and, and_true, true_and, List.zipWith, Option.getD_some, List.singleton_append, List.map_map, Int.natCast_nonneg, Int.toNat_natCast, and_self, Nat.mul_one, Nat.add_zero, if_true, St.freeze, false_or, or_true, true_or, or_false, szOk_cons, szOk_nil, List.cons.injEq, false_and, and_false, forall_const, List.getElem?_toArray, List.getElem_toArray, dopt, dbound, ge_iff_le, gt_iff_lt, dStrBin, List.take_length, plainR_s, Int.reduceLE, Int.reduceLT, Int.reduceToNat, Int.reduceBEq, Int.reduceBNe, isBar, optIn, allocKeys, takes, ptrArgs, callArgs, ptrIn_nil, ptrIn_int, ptrIn_bool, ptrIn_str, ptrIn_agg, ptrIn_list, ptrIn_fix, ptrIn_con, ptrIn_ptr, ptrIn1, ren, ren1, argOk, argOk1, given, oroom, putR, padR, clearR, vroom, nilR, Option.isSome_none, Option.isSome_some, stepTake, stepPtr, notAgg, ite_self, ty3, dp3, ty4, dp4, ty23, dp23, fa23_0, fp23_0, fa23_1, fp23_1, fa23_2, fp23_2, ty25, dp25, fa25_0, fp25_0, fa25_1, fp25_1, fa25_2, fp25_2, fa25_3, fp25_3, dp23_1_6, ty53, dp53, ia53, len53, bs53_2, bs53_3, frzOps_nil, neq23, neq25, eq23, eq25, Nat.le_refl, Nat.sub_self, Option.some.injEq]
    | (refine drW_intro (by kernel_rfl) ?_)
    | (refine gw_intro (fun h => ?_) (fun h => ?_) <;> (try simp only [beq_true, beq_false, Bool.not_eq_eq_eq_not, Bool.not_true, Bool.not_false, Bool.not_not, decide_eq_true_eq, decide_eq_false_iff_not, ge_iff_le, gt_iff_lt] at h)))
        · repeat' (first
    | simp only [*, go_nil, go_seq, go_cond, go_block, go_blk, go_skip, go_exit, go_retc, go_xcode, go_xblk, go_loop, go_region, go_draw, go_ops_nil, go_dops_nil, go_ops, go_dops, okG_some, okB_some, gwD_bool, gwD_undef, cwD_bool, gw_true, gw_false, guardG_none, guardG, opG, opD, isPtr, inB, sval, stake, eats, eaters, get, cval, cval1, croom, St.taken, put_slot, put_room, put_box, put_ctr, put_none, dem_none, dem_slot, dem_box, dem_ctr, dem_room, dem_room1, setBox_slot, setBox_room, setBox_ctr, setBox_box, entry_slot, entry_room, entry_box, entry_ctr, endQ, endR, endV, rvars, rvar, room1, ↓reduceIte, Nat.reduceEqDiff, Nat.reduceLT, Nat.reduceLeDiff, reduceCtorEq, decide_true, decide_false, List.filterMap_cons, List.filterMap_nil, Option.bind_some, Option.map_some, Option.bind_none, Option.map_none, List.getElem?_cons_zero, List.getElem?_cons_succ, List.getD_cons_zero, List.getD_cons_succ, List.contains_cons, List.contains_nil, List.map_cons, List.map_nil, beq_self_eq_true, beq_iff_eq, Bool.or_false, Bool.false_or, Bool.or_true, Bool.true_or, Bool.and_true, Bool.true_and, Nat.reduceBEq, Bool.false_eq_true, dbin, dIntBin, okR, callG, endN, newV, rowS, frzS, frzOf_def, frz_nil, frz_cons, frzD, rowList, rowElem, stepRow, madeRow, isLocal, isAlloc, loadsOwn, ptrAt, beq_true, beq_false, Bool.not_true, Bool.not_false, pureB, leaf, leafN, List.all_cons, List.all_nil, List.nil_append, List.cons_append, List.append_nil, List.take_nil, List.range_zero, List.length_nil, List.length_cons, String.reduceBEq, Bool.true_beq, Bool.false_beq, List.find?_cons, List.find?_nil, dun, List.getElem?_nil, List.take_zero, List.drop_zero, List.take_succ_cons, List.drop_succ_cons, dcells, Nat.zero_add, Nat.reduceAdd, Nat.reduceSub, Nat.reduceMul, stepBox, Bool.and_false, Bool.false_and, and_true, true_and, List.zipWith, Option.getD_some, List.singleton_append, List.map_map, Int.natCast_nonneg, Int.toNat_natCast, and_self, Nat.mul_one, Nat.add_zero, if_true, St.freeze, false_or, or_true, true_or, or_false, szOk_cons, szOk_nil, List.cons.injEq, false_and, and_false, forall_const, List.getElem?_toArray, List.getElem_toArray, dopt, dbound, ge_iff_le, gt_iff_lt, dStrBin, List.take_length, plainR_s, Int.reduceLE, Int.reduceLT, Int.reduceToNat, Int.reduceBEq, Int.reduceBNe, isBar, optIn, allocKeys, takes, ptrArgs, callArgs, ptrIn_nil, ptrIn_int, ptrIn_bool, ptrIn_str, ptrIn_agg, ptrIn_list, ptrIn_fix, ptrIn_con, ptrIn_ptr, ptrIn1, ren, ren1, argOk, argOk1, given, oroom, putR, padR, clearR, vroom, nilR, Option.isSome_none, Option.isSome_some, stepTake, stepPtr, notAgg, ite_self, ty3, dp3, ty4, dp4, ty23, dp23, fa23_0, fp23_0, fa23_1, fp23_1, fa23_2, fp23_2, ty25, dp25, fa25_0, fp25_0, fa25_1, fp25_1, fa25_2, fp25_2, fa25_3, fp25_3, dp23_1_6, ty53, dp53, ia53, len53, bs53_2, bs53_3, frzOps_nil, neq23, neq25, eq23, eq25, Nat.le_refl, Nat.sub_self, Option.some.injEq]
    | (refine drW_intro (by kernel_rfl) ?_)
    | (refine gw_intro (fun h => ?_) (fun h => ?_) <;> (try simp only [beq_true, beq_false, Bool.not_eq_eq_eq_not, Bool.not_true, Bool.not_false, Bool.not_not, decide_eq_true_eq, decide_eq_false_iff_not, ge_iff_le, gt_iff_lt] at h)))
      · have e4 : (a4 != b4) = true := by simp [h4]
        rw [if_pos h4]
        clear h4
        by_cases h5 : a4 > b4
        · repeat' (first
    | simp only [*, go_nil, go_seq, go_cond, go_block, go_blk, go_skip, go_exit, go_retc, go_xcode, go_xblk, go_loop, go_region, go_draw, go_ops_nil, go_dops_nil, go_ops, go_dops, okG_some, okB_some, gwD_bool, gwD_undef, cwD_bool, gw_true, gw_false, guardG_none, guardG, opG, opD, isPtr, inB, sval, stake, eats, eaters, get, cval, cval1, croom, St.taken, put_slot, put_room, put_box, put_ctr, put_none, dem_none, dem_slot, dem_box, dem_ctr, dem_room, dem_room1, setBox_slot, setBox_room, setBox_ctr, setBox_box, entry_slot, entry_room, entry_box, entry_ctr, endQ, endR, endV, rvars, rvar, room1, ↓reduceIte, Nat.reduceEqDiff, Nat.reduceLT, Nat.reduceLeDiff, reduceCtorEq, decide_true, decide_false, List.filterMap_cons, List.filterMap_nil, Option.bind_some, Option.map_some, Option.bind_none, Option.map_none, List.getElem?_cons_zero, List.getElem?_cons_succ, List.getD_cons_zero, List.getD_cons_succ, List.contains_cons, List.contains_nil, List.map_cons, List.map_nil, beq_self_eq_true, beq_iff_eq, Bool.or_false, Bool.false_or, Bool.or_true, Bool.true_or, Bool.and_true, Bool.true_and, Nat.reduceBEq, Bool.false_eq_true, dbin, dIntBin, okR, callG, endN, newV, rowS, frzS, frzOf_def, frz_nil, frz_cons, frzD, rowList, rowElem, stepRow, madeRow, isLocal, isAlloc, loadsOwn, ptrAt, beq_true, beq_false, Bool.not_true, Bool.not_false, pureB, leaf, leafN, List.all_cons, List.all_nil, List.nil_append, List.cons_append, List.append_nil, List.take_nil, List.range_zero, List.length_nil, List.length_cons, String.reduceBEq, Bool.true_beq, Bool.false_beq, List.find?_cons, List.find?_nil, dun, List.getElem?_nil, List.take_zero, List.drop_zero, List.take_succ_cons, List.drop_succ_cons, dcells, Nat.zero_add, Nat.reduceAdd, Nat.reduceSub, Nat.reduceMul, stepBox, Bool.and_false, Bool.false_and, and_true, true_and, List.zipWith, Option.getD_some, List.singleton_append, List.map_map, Int.natCast_nonneg, Int.toNat_natCast, and_self, Nat.mul_one, Nat.add_zero, if_true, St.freeze, false_or, or_true, true_or, or_false, szOk_cons, szOk_nil, List.cons.injEq, false_and, and_false, forall_const, List.getElem?_toArray, List.getElem_toArray, dopt, dbound, ge_iff_le, gt_iff_lt, dStrBin, List.take_length, plainR_s, Int.reduceLE, Int.reduceLT, Int.reduceToNat, Int.reduceBEq, Int.reduceBNe, isBar, optIn, allocKeys, takes, ptrArgs, callArgs, ptrIn_nil, ptrIn_int, ptrIn_bool, ptrIn_str, ptrIn_agg, ptrIn_list, ptrIn_fix, ptrIn_con, ptrIn_ptr, ptrIn1, ren, ren1, argOk, argOk1, given, oroom, putR, padR, clearR, vroom, nilR, Option.isSome_none, Option.isSome_some, stepTake, stepPtr, notAgg, ite_self, ty3, dp3, ty4, dp4, ty23, dp23, fa23_0, fp23_0, fa23_1, fp23_1, fa23_2, fp23_2, ty25, dp25, fa25_0, fp25_0, fa25_1, fp25_1, fa25_2, fp25_2, fa25_3, fp25_3, dp23_1_6, ty53, dp53, ia53, len53, bs53_2, bs53_3, frzOps_nil, neq23, neq25, eq23, eq25, Nat.le_refl, Nat.sub_self, Option.some.injEq]
    | (refine drW_intro (by kernel_rfl) ?_)
    | (refine gw_intro (fun h => ?_) (fun h => ?_) <;> (try simp only [beq_true, beq_false, Bool.not_eq_eq_eq_not, Bool.not_true, Bool.not_false, Bool.not_not, decide_eq_true_eq, decide_eq_false_iff_not, ge_iff_le, gt_iff_lt] at h)))
        · repeat' (first
    | simp only [*, go_nil, go_seq, go_cond, go_block, go_blk, go_skip, go_exit, go_retc, go_xcode, go_xblk, go_loop, go_region, go_draw, go_ops_nil, go_dops_nil, go_ops, go_dops, okG_some, okB_some, gwD_bool, gwD_undef, cwD_bool, gw_true, gw_false, guardG_none, guardG, opG, opD, isPtr, inB, sval, stake, eats, eaters, get, cval, cval1, croom, St.taken, put_slot, put_room, put_box, put_ctr, put_none, dem_none, dem_slot, dem_box, dem_ctr, dem_room, dem_room1, setBox_slot, setBox_room, setBox_ctr, setBox_box, entry_slot, entry_room, entry_box, entry_ctr, endQ, endR, endV, rvars, rvar, room1, ↓reduceIte, Nat.reduceEqDiff, Nat.reduceLT, Nat.reduceLeDiff, reduceCtorEq, decide_true, decide_false, List.filterMap_cons, List.filterMap_nil, Option.bind_some, Option.map_some, Option.bind_none, Option.map_none, List.getElem?_cons_zero, List.getElem?_cons_succ, List.getD_cons_zero, List.getD_cons_succ, List.contains_cons, List.contains_nil, List.map_cons, List.map_nil, beq_self_eq_true, beq_iff_eq, Bool.or_false, Bool.false_or, Bool.or_true, Bool.true_or, Bool.and_true, Bool.true_and, Nat.reduceBEq, Bool.false_eq_true, dbin, dIntBin, okR, callG, endN, newV, rowS, frzS, frzOf_def, frz_nil, frz_cons, frzD, rowList, rowElem, stepRow, madeRow, isLocal, isAlloc, loadsOwn, ptrAt, beq_true, beq_false, Bool.not_true, Bool.not_false, pureB, leaf, leafN, List.all_cons, List.all_nil, List.nil_append, List.cons_append, List.append_nil, List.take_nil, List.range_zero, List.length_nil, List.length_cons, String.reduceBEq, Bool.true_beq, Bool.false_beq, List.find?_cons, List.find?_nil, dun, List.getElem?_nil, List.take_zero, List.drop_zero, List.take_succ_cons, List.drop_succ_cons, dcells, Nat.zero_add, Nat.reduceAdd, Nat.reduceSub, Nat.reduceMul, stepBox, Bool.and_false, Bool.false_and, and_true, true_and, List.zipWith, Option.getD_some, List.singleton_append, List.map_map, Int.natCast_nonneg, Int.toNat_natCast, and_self, Nat.mul_one, Nat.add_zero, if_true, St.freeze, false_or, or_true, true_or, or_false, szOk_cons, szOk_nil, List.cons.injEq, false_and, and_false, forall_const, List.getElem?_toArray, List.getElem_toArray, dopt, dbound, ge_iff_le, gt_iff_lt, dStrBin, List.take_length, plainR_s, Int.reduceLE, Int.reduceLT, Int.reduceToNat, Int.reduceBEq, Int.reduceBNe, isBar, optIn, allocKeys, takes, ptrArgs, callArgs, ptrIn_nil, ptrIn_int, ptrIn_bool, ptrIn_str, ptrIn_agg, ptrIn_list, ptrIn_fix, ptrIn_con, ptrIn_ptr, ptrIn1, ren, ren1, argOk, argOk1, given, oroom, putR, padR, clearR, vroom, nilR, Option.isSome_none, Option.isSome_some, stepTake, stepPtr, notAgg, ite_self, ty3, dp3, ty4, dp4, ty23, dp23, fa23_0, fp23_0, fa23_1, fp23_1, fa23_2, fp23_2, ty25, dp25, fa25_0, fp25_0, fa25_1, fp25_1, fa25_2, fp25_2, fa25_3, fp25_3, dp23_1_6, ty53, dp53, ia53, len53, bs53_2, bs53_3, frzOps_nil, neq23, neq25, eq23, eq25, Nat.le_refl, Nat.sub_self, Option.some.injEq]
    | (refine drW_intro (by kernel_rfl) ?_)
    | (refine gw_intro (fun h => ?_) (fun h => ?_) <;> (try simp only [beq_true, beq_false, Bool.not_eq_eq_eq_not, Bool.not_true, Bool.not_false, Bool.not_not, decide_eq_true_eq, decide_eq_false_iff_not, ge_iff_le, gt_iff_lt] at h)))
    · rw [decide_eq_false h1] at hs
      rw [if_pos h1]
      clear h1
      repeat' (first
    | simp only [*, go_nil, go_seq, go_cond, go_block, go_blk, go_skip, go_exit, go_retc, go_xcode, go_xblk, go_loop, go_region, go_draw, go_ops_nil, go_dops_nil, go_ops, go_dops, okG_some, okB_some, gwD_bool, gwD_undef, cwD_bool, gw_true, gw_false, guardG_none, guardG, opG, opD, isPtr, inB, sval, stake, eats, eaters, get, cval, cval1, croom, St.taken, put_slot, put_room, put_box, put_ctr, put_none, dem_none, dem_slot, dem_box, dem_ctr, dem_room, dem_room1, setBox_slot, setBox_room, setBox_ctr, setBox_box, entry_slot, entry_room, entry_box, entry_ctr, endQ, endR, endV, rvars, rvar, room1, ↓reduceIte, Nat.reduceEqDiff, Nat.reduceLT, Nat.reduceLeDiff, reduceCtorEq, decide_true, decide_false, List.filterMap_cons, List.filterMap_nil, Option.bind_some, Option.map_some, Option.bind_none, Option.map_none, List.getElem?_cons_zero, List.getElem?_cons_succ, List.getD_cons_zero, List.getD_cons_succ, List.contains_cons, List.contains_nil, List.map_cons, List.map_nil, beq_self_eq_true, beq_iff_eq, Bool.or_false, Bool.false_or, Bool.or_true, Bool.true_or, Bool.and_true, Bool.true_and, Nat.reduceBEq, Bool.false_eq_true, dbin, dIntBin, okR, callG, endN, newV, rowS, frzS, frzOf_def, frz_nil, frz_cons, frzD, rowList, rowElem, stepRow, madeRow, isLocal, isAlloc, loadsOwn, ptrAt, beq_true, beq_false, Bool.not_true, Bool.not_false, pureB, leaf, leafN, List.all_cons, List.all_nil, List.nil_append, List.cons_append, List.append_nil, List.take_nil, List.range_zero, List.length_nil, List.length_cons, String.reduceBEq, Bool.true_beq, Bool.false_beq, List.find?_cons, List.find?_nil, dun, List.getElem?_nil, List.take_zero, List.drop_zero, List.take_succ_cons, List.drop_succ_cons, dcells, Nat.zero_add, Nat.reduceAdd, Nat.reduceSub, Nat.reduceMul, stepBox, Bool.and_false, Bool.false_and, and_true, true_and, List.zipWith, Option.getD_some, List.singleton_append, List.map_map, Int.natCast_nonneg, Int.toNat_natCast, and_self, Nat.mul_one, Nat.add_zero, if_true, St.freeze, false_or, or_true, true_or, or_false, szOk_cons, szOk_nil, List.cons.injEq, false_and, and_false, forall_const, List.getElem?_toArray, List.getElem_toArray, dopt, dbound, ge_iff_le, gt_iff_lt, dStrBin, List.take_length, plainR_s, Int.reduceLE, Int.reduceLT, Int.reduceToNat, Int.reduceBEq, Int.reduceBNe, isBar, optIn, allocKeys, takes, ptrArgs, callArgs, ptrIn_nil, ptrIn_int, ptrIn_bool, ptrIn_str, ptrIn_agg, ptrIn_list, ptrIn_fix, ptrIn_con, ptrIn_ptr, ptrIn1, ren, ren1, argOk, argOk1, given, oroom, putR, padR, clearR, vroom, nilR, Option.isSome_none, Option.isSome_some, stepTake, stepPtr, notAgg, ite_self, ty3, dp3, ty4, dp4, ty23, dp23, fa23_0, fp23_0, fa23_1, fp23_1, fa23_2, fp23_2, ty25, dp25, fa25_0, fp25_0, fa25_1, fp25_1, fa25_2, fp25_2, fa25_3, fp25_3, dp23_1_6, ty53, dp53, ia53, len53, bs53_2, bs53_3, frzOps_nil, neq23, neq25, eq23, eq25, Nat.le_refl, Nat.sub_self, Option.some.injEq]
    | (refine drW_intro (by kernel_rfl) ?_)
    | (refine gw_intro (fun h => ?_) (fun h => ?_) <;> (try simp only [beq_true, beq_false, Bool.not_eq_eq_eq_not, Bool.not_true, Bool.not_false, Bool.not_not, decide_eq_true_eq, decide_eq_false_iff_not, ge_iff_le, gt_iff_lt] at h)))
  · have e0 : (a0 == b0) = false := by simp [h0]
    rw [if_pos h0]
    clear h0
    repeat' (first
    | simp only [*, go_nil, go_seq, go_cond, go_block, go_blk, go_skip, go_exit, go_retc, go_xcode, go_xblk, go_loop, go_region, go_draw, go_ops_nil, go_dops_nil, go_ops, go_dops, okG_some, okB_some, gwD_bool, gwD_undef, cwD_bool, gw_true, gw_false, guardG_none, guardG, opG, opD, isPtr, inB, sval, stake, eats, eaters, get, cval, cval1, croom, St.taken, put_slot, put_room, put_box, put_ctr, put_none, dem_none, dem_slot, dem_box, dem_ctr, dem_room, dem_room1, setBox_slot, setBox_room, setBox_ctr, setBox_box, entry_slot, entry_room, entry_box, entry_ctr, endQ, endR, endV, rvars, rvar, room1, ↓reduceIte, Nat.reduceEqDiff, Nat.reduceLT, Nat.reduceLeDiff, reduceCtorEq, decide_true, decide_false, List.filterMap_cons, List.filterMap_nil, Option.bind_some, Option.map_some, Option.bind_none, Option.map_none, List.getElem?_cons_zero, List.getElem?_cons_succ, List.getD_cons_zero, List.getD_cons_succ, List.contains_cons, List.contains_nil, List.map_cons, List.map_nil, beq_self_eq_true, beq_iff_eq, Bool.or_false, Bool.false_or, Bool.or_true, Bool.true_or, Bool.and_true, Bool.true_and, Nat.reduceBEq, Bool.false_eq_true, dbin, dIntBin, okR, callG, endN, newV, rowS, frzS, frzOf_def, frz_nil, frz_cons, frzD, rowList, rowElem, stepRow, madeRow, isLocal, isAlloc, loadsOwn, ptrAt, beq_true, beq_false, Bool.not_true, Bool.not_false, pureB, leaf, leafN, List.all_cons, List.all_nil, List.nil_append, List.cons_append, List.append_nil, List.take_nil, List.range_zero, List.length_nil, List.length_cons, String.reduceBEq, Bool.true_beq, Bool.false_beq, List.find?_cons, List.find?_nil, dun, List.getElem?_nil, List.take_zero, List.drop_zero, List.take_succ_cons, List.drop_succ_cons, dcells, Nat.zero_add, Nat.reduceAdd, Nat.reduceSub, Nat.reduceMul, stepBox, Bool.and_false, Bool.false_and, and_true, true_and, List.zipWith, Option.getD_some, List.singleton_append, List.map_map, Int.natCast_nonneg, Int.toNat_natCast, and_self, Nat.mul_one, Nat.add_zero, if_true, St.freeze, false_or, or_true, true_or, or_false, szOk_cons, szOk_nil, List.cons.injEq, false_and, and_false, forall_const, List.getElem?_toArray, List.getElem_toArray, dopt, dbound, ge_iff_le, gt_iff_lt, dStrBin, List.take_length, plainR_s, Int.reduceLE, Int.reduceLT, Int.reduceToNat, Int.reduceBEq, Int.reduceBNe, isBar, optIn, allocKeys, takes, ptrArgs, callArgs, ptrIn_nil, ptrIn_int, ptrIn_bool, ptrIn_str, ptrIn_agg, ptrIn_list, ptrIn_fix, ptrIn_con, ptrIn_ptr, ptrIn1, ren, ren1, argOk, argOk1, given, oroom, putR, padR, clearR, vroom, nilR, Option.isSome_none, Option.isSome_some, stepTake, stepPtr, notAgg, ite_self, ty3, dp3, ty4, dp4, ty23, dp23, fa23_0, fp23_0, fa23_1, fp23_1, fa23_2, fp23_2, ty25, dp25, fa25_0, fp25_0, fa25_1, fp25_1, fa25_2, fp25_2, fa25_3, fp25_3, dp23_1_6, ty53, dp53, ia53, len53, bs53_2, bs53_3, frzOps_nil, neq23, neq25, eq23, eq25, Nat.le_refl, Nat.sub_self, Option.some.injEq]
    | (refine drW_intro (by kernel_rfl) ?_)
    | (refine gw_intro (fun h => ?_) (fun h => ?_) <;> (try simp only [beq_true, beq_false, Bool.not_eq_eq_eq_not, Bool.not_true, Bool.not_false, Bool.not_not, decide_eq_true_eq, decide_eq_false_iff_not, ge_iff_le, gt_iff_lt] at h)))
end Go.Av
/- Chapter 21: CascadeBeats's function hands back true. -/
set_option linter.unusedSimpArgs false
set_option linter.unusedVariables false
set_option linter.unusedSectionVars false
set_option maxRecDepth 100000
namespace Go.Av
open Go.Proofs Go.RowKit
theorem lessF_eq (a1 a2 a3 b1 b2 b3 : Int) (h : ¬ (a1 = b1 ∧ a2 = b2 ∧ a3 = b3)) : lessF a1 a2 a3 b1 b2 b3 = !(lessF b1 b2 b3 a1 a2 a3) := by
  unfold lessF
  by_cases c1 : a1 = b1
  · by_cases c2 : a2 = b2
    · have c3 : a3 ≠ b3 := fun c3 => h ⟨c1, c2, c3⟩
      simp only [c1, c2, ne_eq, not_true_eq_false, if_false]
      by_cases q : a3 < b3
      · have q' : ¬ b3 < a3 := by omega
        simp [q, q']
      · have q' : b3 < a3 := by omega
        simp [q, q']
    · have c2' : b2 ≠ a2 := fun h => c2 h.symm
      simp only [c1, ne_eq, not_true_eq_false, if_false, c2, c2', not_false_eq_true, if_true]
      by_cases q : a2 < b2
      · have q' : ¬ b2 < a2 := by omega
        simp [q, q']
      · have q' : b2 < a2 := by omega
        simp [q, q']
  · have c1' : b1 ≠ a1 := fun h => c1 h.symm
    simp only [ne_eq, c1, c1', not_false_eq_true, if_true]
    by_cases q : a1 < b1
    · have q' : ¬ b1 < a1 := by omega
      simp [q, q']
    · have q' : b1 < a1 := by omega
      simp [q, q']
theorem beats_eq (a0 : Bool) (a1 a2 a3 a4 a5 : Int) (b0 : Bool) (b1 b2 b3 b4 b5 : Int) :
    (beatsF a0 a1 a2 a3 a4 a5 b0 b1 b2 b3 b4 b5 == beatsF b0 b1 b2 b3 b4 b5 a0 a1 a2 a3 a4 a5) = (a0 == b0 && ((a1 == b1 && (a2 == b2 && (a3 == b3))) && (a4 == b4 && a5 == b5))) := by
  rw [and3]
  unfold beatsF
  by_cases h0 : a0 = b0
  · subst h0
    by_cases h1 : a1 = b1 ∧ a2 = b2 ∧ a3 = b3
    · have h1' : b1 = a1 ∧ b2 = a2 ∧ b3 = a3 := ⟨h1.1.symm, h1.2.1.symm, h1.2.2.symm⟩
      rw [if_neg (show ¬ (a0 ≠ a0) from fun h => h rfl), if_neg (show ¬ ¬ (a1 = b1 ∧ a2 = b2 ∧ a3 = b3) from fun h => h h1), if_neg (show ¬ (a0 ≠ a0) from fun h => h rfl), if_neg (show ¬ ¬ (b1 = a1 ∧ b2 = a2 ∧ b3 = a3) from fun h => h h1'), decide_eq_true h1]
      by_cases h4 : a4 = b4
      · subst h4
        rw [if_neg (fun h => h rfl), if_neg (fun h => h rfl)]
        by_cases h5 : a5 = b5
        · subst h5
          simp
        · by_cases q : a5 > b5
          · have q' : ¬ b5 > a5 := by omega
            simp [q, q', h5]
          · have q' : b5 > a5 := by omega
            simp [q, q', h5]
      · have h4' : b4 ≠ a4 := fun h => h4 h.symm
        rw [if_pos h4, if_pos h4']
        by_cases q : a4 > b4
        · have q' : ¬ b4 > a4 := by omega
          simp [q, q', h4]
        · have q' : b4 > a4 := by omega
          simp [q, q', h4]
    · have h1' : ¬ (b1 = a1 ∧ b2 = a2 ∧ b3 = a3) := fun h => h1 ⟨h.1.symm, h.2.1.symm, h.2.2.symm⟩
      rw [if_neg (show ¬ (a0 ≠ a0) from fun h => h rfl), if_pos h1, if_neg (show ¬ (a0 ≠ a0) from fun h => h rfl), if_pos h1', decide_eq_false h1, lessF_eq _ _ _ _ _ _ h1']
      cases lessF a1 a2 a3 b1 b2 b3 <;> simp
  · have h0' : b0 ≠ a0 := fun h => h0 h.symm
    rw [if_pos h0, if_pos h0']
    have e : (a0 == b0) = false := by simp [h0]
    rw [e]
    rfl
set_option maxHeartbeats 8000000 in
theorem law3_L (h7 : callL Tryz.prog ext21 7 [] [] = some (.bool true, [.no], [])) (a0 : Bool) (a1 a2 a3 a4 a5 : Int) (b0 : Bool) (b1 b2 b3 b4 b5 : Int) : callL Tryz.prog ext21 3 [.agg [.bool a0, .int .i64 a1, .int .i64 a2, .int .i64 a3, .int .i64 a4, .int .i64 a5], .agg [.bool b0, .int .i64 b1, .int .i64 b2, .int .i64 b3, .int .i64 b4, .int .i64 b5]] [] = some (.bool true, [.no], []) := by
  have h1 := beats_L a0 a1 a2 a3 a4 a5 b0 b1 b2 b3 b4 b5
  have h2 := beats_L b0 b1 b2 b3 b4 b5 a0 a1 a2 a3 a4 a5
  have h3 := rbeats_L a0 a1 a2 a3 a4 a5 b0 b1 b2 b3 b4 b5
  have h4 := rbeats_L b0 b1 b2 b3 b4 b5 a0 a1 a2 a3 a4 a5
  have hk := beats_eq a0 a1 a2 a3 a4 a5 b0 b1 b2 b3 b4 b5
  generalize beatsF a0 a1 a2 a3 a4 a5 b0 b1 b2 b3 b4 b5 = x at *
  generalize beatsF b0 b1 b2 b3 b4 b5 a0 a1 a2 a3 a4 a5 = y at *
  have e1 : (x == x) = true := by simp
  have e2 : (y == y) = true := by simp
  have e3 : ((!(x == y)) == !(a0 == b0 && ((a1 == b1 && (a2 == b2 && (a3 == b3))) && (a4 == b4 && a5 == b5)))) = true := by rw [hk]; simp
  clear hk
  refine callK (m := 36) (res := [4]) (rs := [.tmp 4]) rfl Tryz.func3 rfl rfl rfl rfl rfl ?_
  repeat' (first
    | simp only [*, go_nil, go_seq, go_cond, go_block, go_blk, go_skip, go_exit, go_retc, go_xcode, go_xblk, go_loop, go_region, go_draw, go_ops_nil, go_dops_nil, go_ops, go_dops, okG_some, okB_some, gwD_bool, gwD_undef, cwD_bool, gw_true, gw_false, guardG_none, guardG, opG, opD, isPtr, inB, sval, stake, eats, eaters, get, cval, cval1, croom, St.taken, put_slot, put_room, put_box, put_ctr, put_none, dem_none, dem_slot, dem_box, dem_ctr, dem_room, dem_room1, setBox_slot, setBox_room, setBox_ctr, setBox_box, entry_slot, entry_room, entry_box, entry_ctr, endQ, endR, endV, rvars, rvar, room1, ↓reduceIte, Nat.reduceEqDiff, Nat.reduceLT, Nat.reduceLeDiff, reduceCtorEq, decide_true, decide_false, List.filterMap_cons, List.filterMap_nil, Option.bind_some, Option.map_some, Option.bind_none, Option.map_none, List.getElem?_cons_zero, List.getElem?_cons_succ, List.getD_cons_zero, List.getD_cons_succ, List.contains_cons, List.contains_nil, List.map_cons, List.map_nil, beq_self_eq_true, beq_iff_eq, Bool.or_false, Bool.false_or, Bool.or_true, Bool.true_or, Bool.and_true, Bool.true_and, Nat.reduceBEq, Bool.false_eq_true, dbin, dIntBin, okR, callG, endN, newV, rowS, frzS, frzOf_def, frz_nil, frz_cons, frzD, rowList, rowElem, stepRow, madeRow, isLocal, isAlloc, loadsOwn, ptrAt, beq_true, beq_false, Bool.not_true, Bool.not_false, pureB, leaf, leafN, List.all_cons, List.all_nil, List.nil_append, List.cons_append, List.append_nil, List.take_nil, List.range_zero, List.length_nil, List.length_cons, String.reduceBEq, Bool.true_beq, Bool.false_beq, List.find?_cons, List.find?_nil, dun, List.getElem?_nil, List.take_zero, List.drop_zero, List.take_succ_cons, List.drop_succ_cons, dcells, Nat.zero_add, Nat.reduceAdd, Nat.reduceSub, Nat.reduceMul, stepBox, Bool.and_false, Bool.false_and, and_true, true_and, List.zipWith, Option.getD_some, List.singleton_append, List.map_map, Int.natCast_nonneg, Int.toNat_natCast, and_self, Nat.mul_one, Nat.add_zero, if_true, St.freeze, false_or, or_true, true_or, or_false, szOk_cons, szOk_nil, List.cons.injEq, false_and, and_false, forall_const, List.getElem?_toArray, List.getElem_toArray, dopt, dbound, ge_iff_le, gt_iff_lt, dStrBin, List.take_length, plainR_s, Int.reduceLE, Int.reduceLT, Int.reduceToNat, Int.reduceBEq, Int.reduceBNe, isBar, optIn, allocKeys, takes, ptrArgs, callArgs, ptrIn_nil, ptrIn_int, ptrIn_bool, ptrIn_str, ptrIn_agg, ptrIn_list, ptrIn_fix, ptrIn_con, ptrIn_ptr, ptrIn1, ren, ren1, argOk, argOk1, given, oroom, putR, padR, clearR, vroom, nilR, Option.isSome_none, Option.isSome_some, stepTake, stepPtr, notAgg, ite_self, ty3, dp3, ty4, dp4, ty23, dp23, fa23_0, fp23_0, fa23_1, fp23_1, fa23_2, fp23_2, ty25, dp25, fa25_0, fp25_0, fa25_1, fp25_1, fa25_2, fp25_2, fa25_3, fp25_3, dp23_1_6, ty53, dp53, ia53, len53, bs53_2, bs53_3, frzOps_nil, neq23, neq25, eq23, eq25, Nat.le_refl, Nat.sub_self, Option.some.injEq]
    | (refine drW_intro (by kernel_rfl) ?_)
    | (refine gw_intro (fun h => ?_) (fun h => ?_) <;> (try simp only [beq_true, beq_false, Bool.not_eq_eq_eq_not, Bool.not_true, Bool.not_false, Bool.not_not, decide_eq_true_eq, decide_eq_false_iff_not, ge_iff_le, gt_iff_lt] at h)))
end Go.Av
/- What the frames of chapter 21's laws share: the tables as the rows list them; the witness; documents as arguments. No conditions. -/
set_option linter.unusedVariables false
namespace Go.Proofs.YtolpadbdjhmfgaaGreatDoor
open Go.RowKit Go.Av Go.ChangeShapes Go.WideShapes
theorem own : ownKnob Tryz.prog.godebug = none := by kernel_rfl
theorem laidOut : laidOutB Tryz.prog = true := by kernel_rfl
def laid21 : List (String × DataW Unit) := Rows.cascadeBeatsRow.laid
/-- The listed variables' names. -/
def nm (i : Nat) : String := (laid21.map (·.1)).getD i default
def accP : List (Int × Int) := [(128, 191), (160, 191), (128, 159), (144, 191), (128, 143), (0, 0), (0, 0), (0, 0), (0, 0), (0, 0), (0, 0), (0, 0), (0, 0), (0, 0), (0, 0), (0, 0)]
theorem acc_data : (Rows.laid_unicode_utf8_acceptRanges : DataW Unit) = .agg (accP.map fun z => .agg [.lit (.int .u8 z.1), .lit (.int .u8 z.2)]) := rfl
theorem first_data : Rows.laid_unicode_utf8_first = .agg ((Go.Pinned.utf8FirstZ.map fun n => ((n : Nat) : Int)).map fun z => .lit (.int .u8 z)) := by kernel_rfl
theorem accP_at (i : Nat) (h : i < 16) : (accP.getD i (0, 0)).1 = (accN.getD (i * 2) 0 : Nat) ∧ (accP.getD i (0, 0)).2 = (accN.getD (i * 2 + 1) 0 : Nat) := by
  rcases (by omega : i = 0 ∨ i = 1 ∨ i = 2 ∨ i = 3 ∨ i = 4 ∨ i = 5 ∨ i = 6 ∨ i = 7 ∨ i = 8 ∨ i = 9 ∨ i = 10 ∨ i = 11 ∨ i = 12 ∨ i = 13 ∨ i = 14 ∨ i = 15) with rfl | rfl | rfl | rfl | rfl | rfl | rfl | rfl | rfl | rfl | rfl | rfl | rfl | rfl | rfl | rfl <;> exact ⟨rfl, rfl⟩
theorem fs126 : ∃ fs, Tryz.prog.underlying 232 = some (.struct fs) ∧ fs.size = 2 ∧ Go.Deep.oneCellFields Tryz.prog fs = true ∧ ∀ (i : Nat) (f : Field), fs[i]? = some f → Tryz.prog.underlying f.type = some (.int .u8) := by
  have h : (match Tryz.prog.underlying 232 with | some (.struct fs) => fs.size == 2 && Go.Deep.oneCellFields Tryz.prog fs && fs.toList.all (fun f => f.type == 5) | _ => false) = true := by kernel_rfl
  split at h
  · rename_i fs hu
    simp only [Bool.and_eq_true, beq_iff_eq, List.all_eq_true] at h
    refine ⟨fs, hu, h.1.1, h.1.2, fun i f hf => ?_⟩
    rw [h.2 f (by rw [Array.mem_toList_iff]; exact Array.mem_of_getElem? hf)]
    exact Tryz.underlying5
  · cases h
theorem st_data : (Rows.laid_wattle_sel_states : DataW Unit) = .agg (stS.map fun z => .lit (.string z)) := rfl
section
variable {H : Type} {enc : TypeId × Value → H} {P : Program} {w : World} {base : Nat} {spare : Nat → Bool} {held : Bool}
/-- An array of texts. -/
theorem cells_strs {t e : TypeId} {n fuel : Nat} {cs : List Value} {p : List MemPlace} {zs : List (List UInt8)} (ht : P.underlying t = some (.array n e)) (he : P.underlying e = some .string) (hc : P.cellsOf e = 1)
    (h : DataW.trod enc P w base spare held fuel t cs = some (.agg (zs.map fun z => .lit (.string z)), p)) : ∀ i, i < n → cs[i]? = some (.string ⟨(zs.getD i []).toArray⟩) := by
  obtain ⟨xs, m, _, ex, _, hl, hel⟩ := DataW.trod_array ht h
  intro i hi
  have hE := hel i hi
  rw [hc, Nat.mul_one, List.getElem?_eq_getElem (by omega)] at hE
  obtain ⟨z, e1, e2, _⟩ := DataW.trod_string he hE
  have e3 : xs.map (·.1) = zs.map fun z => .lit (.string z) := (DataW.agg.inj (Prod.mk.inj ex).1).symm
  have hlen : zs.length = xs.length := by have := congrArg List.length e3; simpa using this.symm
  have e4 : (xs.map (·.1))[i]? = (zs.map fun z => (DataW.lit (.string z) : DataW H))[i]? := by rw [e3]
  rw [List.getElem?_map, List.getElem?_map, List.getElem?_eq_getElem (by omega : i < xs.length), List.getElem?_eq_getElem (by omega : i < zs.length), e2] at e4
  have hz : z.data.toList = zs.getD i [] := by
    simp only [Option.map_some, Option.some.injEq, DataW.lit.injEq, Lit.string.injEq] at e4
    rw [e4, List.getD, List.getElem?_eq_getElem (by omega : i < zs.length)]; rfl
  rw [← hz]
  have h0 : ((cs.drop i).take 1)[0]? = some (.string z) := by rw [e1]; rfl
  simpa using h0
end
theorem pw_strs {F : Nat → Nat → Prop} {w : World} (ss : List (List UInt8)) : ∀ (i : Nat) (v : Value) (x : D), (ss.map fun s => Value.string ⟨s.toArray⟩)[i]? = some v → (ss.map D.str)[i]? = some x → Den0 F w v x := by
  intro i v x hv hx
  simp only [List.getElem?_map, Option.map_eq_some_iff] at hv hx
  obtain ⟨z, hz, rfl⟩ := hv
  obtain ⟨z', hz', rfl⟩ := hx
  rw [hz] at hz'
  obtain rfl := Option.some.inj hz'
  exact .str z
theorem fix_of {W : World} {g : Nat} {ss : List (List UInt8)} (h : ∀ c, c < ss.length → W.cell? ⟨g, c, none⟩ = some (.string ⟨(ss.getD c []).toArray⟩)) : Den0 (old W) W (.pointer (some ⟨g, 0, none⟩)) (.fix (.agg (ss.map .str)) 0) := by
  refine Den0.fix (.agg (ss.map D.str)) g 0 0 (ss.map fun s => Value.string ⟨s.toArray⟩) (by simp [dcells]) (fun i v hv => ?_) (pw_strs _)
  simp only [List.getElem?_map, Option.map_eq_some_iff] at hv
  obtain ⟨z, hz, rfl⟩ := hv
  have hlt : i < ss.length := (List.getElem?_eq_some_iff.1 hz).1
  have hcell := h i hlt
  rw [List.getD, hz] at hcell
  rw [Nat.zero_add]
  exact ⟨cell_old hcell, hcell, rfl⟩
theorem pw_ints {F : Nat → Nat → Prop} {w : World} (ns : List Nat) : ∀ (i : Nat) (v : Value) (x : D), (ns.map fun n => Value.int .u8 (n : Nat))[i]? = some v → (ns.map fun n => D.int .u8 (n : Nat))[i]? = some x → Den0 F w v x := by
  intro i v x hv hx
  simp only [List.getElem?_map, Option.map_eq_some_iff] at hv hx
  obtain ⟨z, hz, rfl⟩ := hv
  obtain ⟨z', hz', rfl⟩ := hx
  rw [hz] at hz'
  obtain rfl := Option.some.inj hz'
  exact .int _ _
theorem fix_ints {W : World} {g : Nat} {ns : List Nat} (h : ∀ c, c < ns.length → W.cell? ⟨g, c, none⟩ = some (.int .u8 (ns.getD c 0 : Nat))) : Den0 (old W) W (.pointer (some ⟨g, 0, none⟩)) (.fix (.agg (ns.map fun n => .int .u8 (n : Nat))) 0) := by
  refine Den0.fix (.agg (ns.map fun n => D.int .u8 (n : Nat))) g 0 0 (ns.map fun n => Value.int .u8 (n : Nat)) (by simp [dcells]) (fun i v hv => ?_) (pw_ints _)
  simp only [List.getElem?_map, Option.map_eq_some_iff] at hv
  obtain ⟨z, hz, rfl⟩ := hv
  have hlt : i < ns.length := (List.getElem?_eq_some_iff.1 hz).1
  have hcell := h i hlt
  rw [List.getD, hz] at hcell
  rw [Nat.zero_add]
  exact ⟨cell_old hcell, hcell, rfl⟩
theorem gok21 {W : World} (h : laidMetH Tryz.prog laid21 W) : GOK (old W) W := by
  rw [MakeChecks.laidMetH_plain _ _ _ (by kernel_rfl)] at h
  obtain ⟨ps, ⟨g0, t0, cs0, f0, p0, q0, hg0, ht0, hv0, hd0, ⟨g1, t1, cs1, f1, p1, q1, hg1, ht1, hv1, hd1, ⟨g2, t2, cs2, f2, p2, q2, hg2, ht2, hv2, hd2, _⟩, _⟩, _⟩, _, _⟩ := h
  obtain rfl := Option.some.inj ((show Tryz.prog.globalNamed (nm 0) = some 2 by kernel_rfl).symm.trans hg0)
  obtain rfl := Option.some.inj ((show (Tryz.prog.globals[2]?).map (·.type) = some 233 by kernel_rfl).symm.trans ht0)
  obtain rfl := Option.some.inj ((show Tryz.prog.globalNamed (nm 1) = some 0 by kernel_rfl).symm.trans hg1)
  obtain rfl := Option.some.inj ((show (Tryz.prog.globals[0]?).map (·.type) = some 209 by kernel_rfl).symm.trans ht1)
  obtain rfl := Option.some.inj ((show Tryz.prog.globalNamed (nm 2) = some 1 by kernel_rfl).symm.trans hg2)
  obtain rfl := Option.some.inj ((show (Tryz.prog.globals[1]?).map (·.type) = some 230 by kernel_rfl).symm.trans ht2)
  have h1 : ∀ c, c < stS.length → W.cell? ⟨0, c, none⟩ = some (.string ⟨(stS.getD c []).toArray⟩) := by
    intro c hc
    rw [st_data] at hd1
    have := cells_strs Tryz.underlying209 Tryz.underlying9 (by kernel_rfl) hd1 c hc
    rw [World.var?_cell (show Tryz.prog.globalNamed (nm 1) = some 0 by kernel_rfl) hv1 c]
    simpa using this
  have h2 : ∀ c, c < ((List.range 256).map firstN).length → W.cell? ⟨1, c, none⟩ = some (.int .u8 (((List.range 256).map firstN).getD c 0 : Nat)) := by
    intro c hc
    have hc : c < 256 := by simpa using hc
    rw [first_data] at hd2
    have := cells_ints (k := .u8) Tryz.underlying230 Tryz.underlying5 (by kernel_rfl) hd2 c hc
    rw [World.var?_cell (show Tryz.prog.globalNamed (nm 2) = some 1 by kernel_rfl) hv2 c]
    have hz : (Go.Pinned.utf8FirstZ.map fun n => ((n : Nat) : Int)).getD c 0 = (firstN c : Nat) := by
      unfold firstN
      have hlen : Go.Pinned.utf8FirstZ.length = 256 := by kernel_rfl
      rw [List.getD, List.getD, List.getElem?_map, List.getElem?_eq_getElem (by omega : c < Go.Pinned.utf8FirstZ.length)]
      rfl
    rw [hz] at this
    have e : ((List.range 256).map firstN).getD c 0 = firstN c := by
      rw [List.getD, List.getElem?_map, List.getElem?_range hc]
      rfl
    rw [e]
    simpa using this
  have h3 : ∀ c, c < accN.length → W.cell? ⟨2, c, none⟩ = some (.int .u8 (accN.getD c 0 : Nat)) := by
    intro i hi
    have hi : i < 32 := hi
    rw [acc_data] at hd0
    obtain ⟨fs, h1, h2, h3, h4⟩ := fs126
    have := cells_pairs (u := 5) (k := .u8) Tryz.underlying233 h1 h2 h3 h4 (by kernel_rfl) hd0 (i / 2) (by omega)
    obtain ⟨e1, e2⟩ := accP_at (i / 2) (by omega)
    rw [e1, e2] at this
    rw [World.var?_cell (show Tryz.prog.globalNamed (nm 0) = some 2 by kernel_rfl) hv0 i]
    rcases (by omega : i = i / 2 * 2 ∨ i = i / 2 * 2 + 1) with e | e
    · rw [← e] at this; simpa using this.1
    · rw [← e] at this; simpa using this.2
  refine ⟨fun g => ?_, fun x hx => by cases hx⟩
  show (if g = 0 then D.fix (.agg stD) 0 else if g = 1 then .fix (.agg firstD) 0 else if g = 2 then .fix (.agg accD) 0 else .bad) = .bad ∨ Den0 (old W) W (.pointer (some ⟨g, 0, none⟩)) (if g = 0 then D.fix (.agg stD) 0 else if g = 1 then .fix (.agg firstD) 0 else if g = 2 then .fix (.agg accD) 0 else .bad)
  by_cases c1 : g = 0
  · subst c1; exact .inr (fix_of h1)
  · by_cases c2 : g = 1
    · subst c2
      right
      have := fix_ints h2
      rw [List.map_map] at this
      exact this
    · by_cases c3 : g = 2
      · subst c3; exact .inr (fix_ints h3)
      · left; rw [if_neg c1, if_neg c2, if_neg c3]
theorem law_calls {ext : Av.Call} (hext : CallOK Tryz.prog ext) {f : FuncId} {xs : List D} {r : List Room} {vals : List Value} {W : World} (hL : laidMetH Tryz.prog laid21 W) (h : callL Tryz.prog ext f xs [] = some (.bool true, r, [])) (hl : vals.length = xs.length)
    (hd : ∀ (i : Nat) (v : Value) (x : D), vals[i]? = some v → xs[i]? = some x → Den0 (old W) W v x) : Calls Tryz.prog f vals.toArray W fun e W' => e = .returned (.bool true) ∧ Below W.heap.size W W' := by
  obtain ⟨N, hN⟩ := callL_aev h
  obtain ⟨_, hcall⟩ := aev_sound fineS hext N f _ [] _ _ _ hN
  have hcalls := hcall vals W (old W) mu0 hl (fun i v x hv hx => .pure _ _ (hd i v x hv hx)) (fun i bx hb => by simp at hb) (given0 W) (old_lt W) (gok21 hL)
  refine hcalls.mono ?_
  rintro e W' ⟨v, F', ncl, rfl, hE, _, _, hd, _⟩
  rcases hd with ⟨_, hd, _⟩ | ⟨hl, _⟩
  · exact ⟨by rw [(hd (fun _ => 0) fun _ _ => 0).bool_], hE.os, hE.tape, hE.output, hE.size, fun k hk => hE.block k hk (S_zero _ k)⟩
  · simp at hl
theorem witness21 {H : Type} (enc : TypeId × Value → H) (os : Os) (args : Array Value) : laidMetH Tryz.prog laid21 ((World.laidAll Tryz.prog os laid21).forCall (fun _ _ => 0) ⟨#[], args, []⟩).memory := by
  rw [MakeChecks.laidMetH_plain _ _ _ (by kernel_rfl)]
  exact laidMet_laidAll _ (by kernel_rfl) (by kernel_rfl)
theorem reach_le : reachBytes ≤ 140737488355328 := by decide
theorem str_ok {d : D} (h : TyOk .str d) : ∃ s, d = .str s ∧ s.length ≤ 140737488355328 := by
  cases h with
  | str l hl => exact ⟨_, rfl, Nat.le_trans hl reach_le⟩
theorem int_ok {d : D} (h : TyOk (.int .i64) d) : ∃ z : Int, d = .int .i64 z ∧ -9223372036854775808 ≤ z ∧ z < 9223372036854775808 := by
  cases h with
  | int k n hw =>
    have : (Lit.int .i64 n).wf = true := hw
    simp [Lit.wf, IntKind.min, IntKind.max, IntKind.signed, IntKind.bits] at this
    exact ⟨n, rfl, by omega, by omega⟩
theorem wt_ok {d : D} (h : TyOk (.agg [.bool, .int .i64, .int .i64, .int .i64, .int .i64, .int .i64]) d) : ∃ (a0 : Bool) (a1 a2 a3 a4 a5 : Int), d = .agg [.bool a0, .int .i64 a1, .int .i64 a2, .int .i64 a3, .int .i64 a4, .int .i64 a5] := by
  cases h with
  | agg ts ds hl h =>
    match ds, hl with
    | [x0, x1, x2, x3, x4, x5], _ =>
      have h0 := h 0 _ _ rfl rfl
      have h1 := h 1 _ _ rfl rfl
      have h2 := h 2 _ _ rfl rfl
      have h3 := h 3 _ _ rfl rfl
      have h4 := h 4 _ _ rfl rfl
      have h5 := h 5 _ _ rfl rfl
      cases h0; cases h1; cases h2; cases h3; cases h4; cases h5
      exact ⟨_, _, _, _, _, _, rfl⟩
end Go.Proofs.YtolpadbdjhmfgaaGreatDoor
