/- Chapter 6: what holds, by the document. -/
import Derived.Test.YtcblgonlgnhgmaaAv6h
set_option linter.unusedVariables false
set_option linter.unusedSimpArgs false
namespace Go.Av
open Go.Proofs
def rholdF (op : Int) (t v : List UInt8) : Bool :=
  if op = 1 then true else if op = 2 then t == v else if op = 4 then (t == v || atF v 0 (t ++ [45])) else if (t == []) = true then false else
  if op = 5 then atF v 0 t else if op = 6 then (decide (t.length ≤ v.length) && atF v (v.length - t.length) t) else
  if op = 3 then (!t.any blankB && (partsB v []).any (· == t)) else if op = 7 then (List.range v.length).any (atF v · t) else false
set_option maxHeartbeats 2000000 in
theorem rholdsO_L (op : Int) (t : List UInt8) (fold : Bool) (v : List UInt8) (ht : t.length < 400000000) (hv : v.length < 400000000) (h3 : (op == 3) = false) (h7 : (op == 7) = false) :
    callL Try.prog ext6 10 [condD op t fold, .str v] [] = some (.bool (rholdF op (low1 fold t) (low1 fold v)), [.no], []) := by
  unfold condD
  have hv' : (low1 fold v).length < 400000000 := by rw [low1_len]; exact hv
  have ht' : (low1 fold t).length < 400000000 := by rw [low1_len]; exact ht
  obtain ⟨r1, hl1⟩ := rlower_L t (by omega)
  obtain ⟨r2, hl2⟩ := rlower_L v (by omega)
  have f3 : ¬ op = 3 := by simpa using h3
  have f7 : ¬ op = 7 := by simpa using h7
  have key : ∀ t' v' : List UInt8, t'.length < 400000000 → v'.length < 400000000 →
      (callL Try.prog ext6 27 [.str v', .int .i64 0, .str (t' ++ [45])] [] = some (.bool (atF v' 0 (t' ++ [45])), [.no], [])) ∧ (callL Try.prog ext6 27 [.str v', .int .i64 0, .str t'] [] = some (.bool (atF v' 0 t'), [.no], [])) ∧
      callL Try.prog ext6 27 [.str v', .int .i64 (IntKind.i64.wrap ((v'.length : Int) - t'.length)), .str t'] [] = some (.bool (decide (t'.length ≤ v'.length) && atF v' (v'.length - t'.length) t'), [.no], []) ∧ t'.length + 1 ≤ 1099511627776 := by
    intro t' v' h1 h2
    refine ⟨at_L v' (t' ++ [45]) 0 (by omega) (by simp; omega) (by omega), at_L v' t' 0 (by omega) (by omega) (by omega), ?_, by omega⟩
    rw [wrap64 _ (by omega) (by omega)]
    by_cases h : t'.length ≤ v'.length
    · rw [show (v'.length : Int) - t'.length = ((v'.length - t'.length : Nat) : Int) from by omega, at_L v' t' _ (by omega) (by omega) (by omega), decide_eq_true h]
      rfl
    · rw [at_neg v' t' _ (by omega), decide_eq_false h]
      rfl
  unfold rholdF
  cases fold with
  | false =>
    obtain ⟨k1, k2, k3, k4⟩ := key t v ht hv
    refine callK (m := 102) (res := [4]) (rs := [.tmp 4]) rfl Try.func10 rfl rfl rfl rfl rfl ?_
    simp only [low1]
    repeat' (first
    | simp only [*, go_nil, go_seq, go_cond, go_block, go_blk, go_skip, go_exit, go_retc, go_xcode, go_xblk, go_loop, go_region, go_draw, go_ops_nil, go_dops_nil, go_ops, go_dops1, go_dops, okG_some, okB_some, gwD_bool, gwD_undef, cwD_bool, gw_true, gw_false, guardG_none, guardG, opG, opD, isPtr, isStore, inB, sval, stake, eats, eaters, get, cval, cval1, croom, St.taken, put_slot, put_room, put_box, put_ctr, put_none, dem_none, dem_slot, dem_box, dem_ctr, dem_room, dem_room1, setBox_slot, setBox_room, setBox_ctr, setBox_box, entry_slot, entry_room, entry_box, entry_ctr, endQ, endR, endV, rvars, rvar, room1, ↓reduceIte, Nat.reduceEqDiff, Nat.reduceLT, Nat.reduceLeDiff, reduceCtorEq, decide_true, decide_false, List.filterMap_cons, List.filterMap_nil, Option.bind_some, Option.map_some, Option.bind_none, Option.map_none, List.getElem?_cons_zero, List.getElem?_cons_succ, List.getD_cons_zero, List.getD_cons_succ, List.contains_cons, List.contains_nil, List.map_cons, List.map_nil, beq_self_eq_true, beq_iff_eq, Bool.or_false, Bool.false_or, Bool.or_true, Bool.true_or, Bool.and_true, Bool.true_and, Nat.reduceBEq, Bool.false_eq_true, dbin, dIntBin, okR, callG, endN, newV, row6, frz6, frzOf_def, frz_nil, frz_cons, frzD, rowList, rowElem, stepRow, madeRow, isLocal, allocKey, isAlloc, loadsOwn, ptrAt, beq_true, beq_false, Bool.not_true, Bool.not_false, pureB, leaf, leafN, List.all_cons, List.all_nil, List.nil_append, List.cons_append, List.append_nil, List.take_nil, List.range_zero, List.length_nil, List.length_cons, String.reduceBEq, Bool.true_beq, Bool.false_beq, List.find?_cons, List.find?_nil, dun, List.getElem?_nil, List.take_zero, List.drop_zero, List.take_succ_cons, List.drop_succ_cons, dcells, Nat.zero_add, Nat.reduceAdd, Nat.reduceSub, Nat.reduceMul, stepBox, Bool.and_false, Bool.false_and, and_true, true_and, List.zipWith, Option.getD_some, List.singleton_append, List.map_map, Int.natCast_nonneg, Int.toNat_natCast, and_self, Nat.mul_one, Nat.add_zero, if_true, St.freeze, false_or, or_true, true_or, or_false, szOk_cons, szOk_nil, List.cons.injEq, false_and, and_false, forall_const, List.getElem?_toArray, List.getElem_toArray, dopt, dbound, ge_iff_le, gt_iff_lt, dStrBin, List.take_length, plainR_s, Int.reduceLE, Int.reduceLT, Int.reduceToNat, Int.reduceBEq, Int.reduceBNe, ty3, ty4, ty5, ty9, ty23, ty25, ty28, ty30, ty41, fap0, fap1, fap2, dp3, dp4, dp5, dp9, dp23, ia25r, ia25, ia28, ia30, ia41, len9, len25, len25r, len28, len30, len41, ix9, sl9, cv53, cv35, cv925, cv259, ap25, ap30, ap41, bs25, bs30, bs41, bs25e, bs30e, bs41e, zr23]
    | (refine drW_intro (by kernel_rfl) ?_)
    | (refine gw_intro (fun h => ?_) (fun h => ?_) <;> (try simp only [beq_true, beq_false, Bool.not_eq_eq_eq_not, Bool.not_true, Bool.not_false, Bool.not_not, decide_eq_true_eq, decide_eq_false_iff_not, ge_iff_le, gt_iff_lt] at h)))
    all_goals try (simp_all; done)
  | true =>
    obtain ⟨k1, k2, k3, k4⟩ := key (lowB t) (lowB v) ht' hv'
    refine callK (m := 102) (res := [4]) (rs := [.tmp 4]) rfl Try.func10 rfl rfl rfl rfl rfl ?_
    simp only [low1, if_true]
    repeat' (first
    | simp only [*, go_nil, go_seq, go_cond, go_block, go_blk, go_skip, go_exit, go_retc, go_xcode, go_xblk, go_loop, go_region, go_draw, go_ops_nil, go_dops_nil, go_ops, go_dops1, go_dops, okG_some, okB_some, gwD_bool, gwD_undef, cwD_bool, gw_true, gw_false, guardG_none, guardG, opG, opD, isPtr, isStore, inB, sval, stake, eats, eaters, get, cval, cval1, croom, St.taken, put_slot, put_room, put_box, put_ctr, put_none, dem_none, dem_slot, dem_box, dem_ctr, dem_room, dem_room1, setBox_slot, setBox_room, setBox_ctr, setBox_box, entry_slot, entry_room, entry_box, entry_ctr, endQ, endR, endV, rvars, rvar, room1, ↓reduceIte, Nat.reduceEqDiff, Nat.reduceLT, Nat.reduceLeDiff, reduceCtorEq, decide_true, decide_false, List.filterMap_cons, List.filterMap_nil, Option.bind_some, Option.map_some, Option.bind_none, Option.map_none, List.getElem?_cons_zero, List.getElem?_cons_succ, List.getD_cons_zero, List.getD_cons_succ, List.contains_cons, List.contains_nil, List.map_cons, List.map_nil, beq_self_eq_true, beq_iff_eq, Bool.or_false, Bool.false_or, Bool.or_true, Bool.true_or, Bool.and_true, Bool.true_and, Nat.reduceBEq, Bool.false_eq_true, dbin, dIntBin, okR, callG, endN, newV, row6, frz6, frzOf_def, frz_nil, frz_cons, frzD, rowList, rowElem, stepRow, madeRow, isLocal, allocKey, isAlloc, loadsOwn, ptrAt, beq_true, beq_false, Bool.not_true, Bool.not_false, pureB, leaf, leafN, List.all_cons, List.all_nil, List.nil_append, List.cons_append, List.append_nil, List.take_nil, List.range_zero, List.length_nil, List.length_cons, String.reduceBEq, Bool.true_beq, Bool.false_beq, List.find?_cons, List.find?_nil, dun, List.getElem?_nil, List.take_zero, List.drop_zero, List.take_succ_cons, List.drop_succ_cons, dcells, Nat.zero_add, Nat.reduceAdd, Nat.reduceSub, Nat.reduceMul, stepBox, Bool.and_false, Bool.false_and, and_true, true_and, List.zipWith, Option.getD_some, List.singleton_append, List.map_map, Int.natCast_nonneg, Int.toNat_natCast, and_self, Nat.mul_one, Nat.add_zero, if_true, St.freeze, false_or, or_true, true_or, or_false, szOk_cons, szOk_nil, List.cons.injEq, false_and, and_false, forall_const, List.getElem?_toArray, List.getElem_toArray, dopt, dbound, ge_iff_le, gt_iff_lt, dStrBin, List.take_length, plainR_s, Int.reduceLE, Int.reduceLT, Int.reduceToNat, Int.reduceBEq, Int.reduceBNe, ty3, ty4, ty5, ty9, ty23, ty25, ty28, ty30, ty41, fap0, fap1, fap2, dp3, dp4, dp5, dp9, dp23, ia25r, ia25, ia28, ia30, ia41, len9, len25, len25r, len28, len30, len41, ix9, sl9, cv53, cv35, cv925, cv259, ap25, ap30, ap41, bs25, bs30, bs41, bs25e, bs30e, bs41e, zr23]
    | (refine drW_intro (by kernel_rfl) ?_)
    | (refine gw_intro (fun h => ?_) (fun h => ?_) <;> (try simp only [beq_true, beq_false, Bool.not_eq_eq_eq_not, Bool.not_true, Bool.not_false, Bool.not_not, decide_eq_true_eq, decide_eq_false_iff_not, ge_iff_le, gt_iff_lt] at h)))
    all_goals try (simp_all; done)
end Go.Av
