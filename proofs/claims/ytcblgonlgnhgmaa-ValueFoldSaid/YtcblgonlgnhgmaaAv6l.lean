/- Chapter 6: what implies, by both sides; the shortest value. -/
import Derived.Test.YtcblgonlgnhgmaaAv6k
set_option linter.unusedVariables false
set_option linter.unusedSimpArgs false
namespace Go.Av
open Go.Proofs
theorem rholds_L (op : Int) (t : List UInt8) (fold : Bool) (v : List UInt8) (ht : t.length < 400000000) (hv : v.length < 400000000) :
    callL Try.prog ext6 10 [condD op t fold, .str v] [] = some (.bool (rholdF op (low1 fold t) (low1 fold v)), [.no], []) := by
  by_cases h3 : op = 3
  · subst h3; exact rholds3_L t fold v ht hv
  · by_cases h7 : op = 7
    · subst h7; exact rholds7_L t fold v ht hv
    · exact rholdsO_L op t fold v ht hv (by simpa using h3) (by simpa using h7)
def rneverF (op : Int) (t : List UInt8) (fold : Bool) : Bool :=
  if (op == 1) = true then false else if (op == 2) = true then false else if (op == 4) = true then false else !rholdF op (low1 fold t) (low1 fold t)
set_option maxHeartbeats 1000000 in
theorem rnever_L (op : Int) (t : List UInt8) (fold : Bool) (ht : t.length < 400000000) : callL Try.prog ext6 16 [condD op t fold] [] = some (.bool (rneverF op t fold), [.no], []) := by
  have h1 := rholds_L op t fold t ht ht
  unfold condD at h1 ⊢
  unfold rneverF
  generalize rholdF op (low1 fold t) (low1 fold t) = z at h1 ⊢
  refine callK (m := 21) (res := [2]) (rs := [.tmp 2]) rfl Try.func16 rfl rfl rfl rfl rfl ?_
  repeat' (first
    | simp only [*, go_nil, go_seq, go_cond, go_block, go_blk, go_skip, go_exit, go_retc, go_xcode, go_xblk, go_loop, go_region, go_draw, go_ops_nil, go_dops_nil, go_ops, go_dops1, go_dops, okG_some, okB_some, gwD_bool, gwD_undef, cwD_bool, gw_true, gw_false, guardG_none, guardG, opG, opD, isPtr, isStore, inB, sval, stake, eats, eaters, get, cval, cval1, croom, St.taken, put_slot, put_room, put_box, put_ctr, put_none, dem_none, dem_slot, dem_box, dem_ctr, dem_room, dem_room1, setBox_slot, setBox_room, setBox_ctr, setBox_box, entry_slot, entry_room, entry_box, entry_ctr, endQ, endR, endV, rvars, rvar, room1, ↓reduceIte, Nat.reduceEqDiff, Nat.reduceLT, Nat.reduceLeDiff, reduceCtorEq, decide_true, decide_false, List.filterMap_cons, List.filterMap_nil, Option.bind_some, Option.map_some, Option.bind_none, Option.map_none, List.getElem?_cons_zero, List.getElem?_cons_succ, List.getD_cons_zero, List.getD_cons_succ, List.contains_cons, List.contains_nil, List.map_cons, List.map_nil, beq_self_eq_true, beq_iff_eq, Bool.or_false, Bool.false_or, Bool.or_true, Bool.true_or, Bool.and_true, Bool.true_and, Nat.reduceBEq, Bool.false_eq_true, dbin, dIntBin, okR, callG, endN, newV, row6, frz6, frzOf_def, frz_nil, frz_cons, frzD, rowList, rowElem, stepRow, madeRow, isLocal, allocKey, isAlloc, loadsOwn, ptrAt, beq_true, beq_false, Bool.not_true, Bool.not_false, pureB, leaf, leafN, List.all_cons, List.all_nil, List.nil_append, List.cons_append, List.append_nil, List.take_nil, List.range_zero, List.length_nil, List.length_cons, String.reduceBEq, Bool.true_beq, Bool.false_beq, List.find?_cons, List.find?_nil, dun, List.getElem?_nil, List.take_zero, List.drop_zero, List.take_succ_cons, List.drop_succ_cons, dcells, Nat.zero_add, Nat.reduceAdd, Nat.reduceSub, Nat.reduceMul, stepBox, Bool.and_false, Bool.false_and, and_true, true_and, List.zipWith, Option.getD_some, List.singleton_append, List.map_map, Int.natCast_nonneg, Int.toNat_natCast, and_self, Nat.mul_one, Nat.add_zero, if_true, St.freeze, false_or, or_true, true_or, or_false, szOk_cons, szOk_nil, List.cons.injEq, false_and, and_false, forall_const, List.getElem?_toArray, List.getElem_toArray, dopt, dbound, ge_iff_le, gt_iff_lt, dStrBin, List.take_length, plainR_s, Int.reduceLE, Int.reduceLT, Int.reduceToNat, Int.reduceBEq, Int.reduceBNe, ty3, ty4, ty5, ty9, ty23, ty25, ty28, ty30, ty41, fap0, fap1, fap2, dp3, dp4, dp5, dp9, dp23, ia25r, ia25, ia28, ia30, ia41, len9, len25, len25r, len28, len30, len41, ix9, sl9, cv53, cv35, cv925, cv259, ap25, ap30, ap41, bs25, bs30, bs41, bs25e, bs30e, bs41e, zr23]
    | (refine drW_intro (by kernel_rfl) ?_)
    | (refine gw_intro (fun h => ?_) (fun h => ?_) <;> (try simp only [beq_true, beq_false, Bool.not_eq_eq_eq_not, Bool.not_true, Bool.not_false, Bool.not_not, decide_eq_true_eq, decide_eq_false_iff_not, ge_iff_le, gt_iff_lt] at h)))
  all_goals simp_all
set_option maxHeartbeats 1000000 in
theorem least_L (op : Int) (t : List UInt8) (fold : Bool) (ht : t.length < 400000000) : callL Try.prog ext6 14 [condD op t fold] [] =
    some (.tuple [.str (if neverF op t = true then [] else if (op == 1) = true then [] else t), .bool (!neverF op t)], [.no, .no], []) := by
  have h1 := never_L op t fold (by omega)
  unfold condD at h1 ⊢
  generalize neverF op t = z at h1 ⊢
  refine callK (m := 13) (res := [2, 3]) (rs := [.tmp 2, .tmp 3]) rfl Try.func14 rfl rfl rfl rfl rfl ?_
  repeat' (first
    | simp only [*, go_nil, go_seq, go_cond, go_block, go_blk, go_skip, go_exit, go_retc, go_xcode, go_xblk, go_loop, go_region, go_draw, go_ops_nil, go_dops_nil, go_ops, go_dops1, go_dops, okG_some, okB_some, gwD_bool, gwD_undef, cwD_bool, gw_true, gw_false, guardG_none, guardG, opG, opD, isPtr, isStore, inB, sval, stake, eats, eaters, get, cval, cval1, croom, St.taken, put_slot, put_room, put_box, put_ctr, put_none, dem_none, dem_slot, dem_box, dem_ctr, dem_room, dem_room1, setBox_slot, setBox_room, setBox_ctr, setBox_box, entry_slot, entry_room, entry_box, entry_ctr, endQ, endR, endV, rvars, rvar, room1, ↓reduceIte, Nat.reduceEqDiff, Nat.reduceLT, Nat.reduceLeDiff, reduceCtorEq, decide_true, decide_false, List.filterMap_cons, List.filterMap_nil, Option.bind_some, Option.map_some, Option.bind_none, Option.map_none, List.getElem?_cons_zero, List.getElem?_cons_succ, List.getD_cons_zero, List.getD_cons_succ, List.contains_cons, List.contains_nil, List.map_cons, List.map_nil, beq_self_eq_true, beq_iff_eq, Bool.or_false, Bool.false_or, Bool.or_true, Bool.true_or, Bool.and_true, Bool.true_and, Nat.reduceBEq, Bool.false_eq_true, dbin, dIntBin, okR, callG, endN, newV, row6, frz6, frzOf_def, frz_nil, frz_cons, frzD, rowList, rowElem, stepRow, madeRow, isLocal, allocKey, isAlloc, loadsOwn, ptrAt, beq_true, beq_false, Bool.not_true, Bool.not_false, pureB, leaf, leafN, List.all_cons, List.all_nil, List.nil_append, List.cons_append, List.append_nil, List.take_nil, List.range_zero, List.length_nil, List.length_cons, String.reduceBEq, Bool.true_beq, Bool.false_beq, List.find?_cons, List.find?_nil, dun, List.getElem?_nil, List.take_zero, List.drop_zero, List.take_succ_cons, List.drop_succ_cons, dcells, Nat.zero_add, Nat.reduceAdd, Nat.reduceSub, Nat.reduceMul, stepBox, Bool.and_false, Bool.false_and, and_true, true_and, List.zipWith, Option.getD_some, List.singleton_append, List.map_map, Int.natCast_nonneg, Int.toNat_natCast, and_self, Nat.mul_one, Nat.add_zero, if_true, St.freeze, false_or, or_true, true_or, or_false, szOk_cons, szOk_nil, List.cons.injEq, false_and, and_false, forall_const, List.getElem?_toArray, List.getElem_toArray, dopt, dbound, ge_iff_le, gt_iff_lt, dStrBin, List.take_length, plainR_s, Int.reduceLE, Int.reduceLT, Int.reduceToNat, Int.reduceBEq, Int.reduceBNe, ty3, ty4, ty5, ty9, ty23, ty25, ty28, ty30, ty41, fap0, fap1, fap2, dp3, dp4, dp5, dp9, dp23, ia25r, ia25, ia28, ia30, ia41, len9, len25, len25r, len28, len30, len41, ix9, sl9, cv53, cv35, cv925, cv259, ap25, ap30, ap41, bs25, bs30, bs41, bs25e, bs30e, bs41e, zr23]
    | (refine drW_intro (by kernel_rfl) ?_)
    | (refine gw_intro (fun h => ?_) (fun h => ?_) <;> (try simp only [beq_true, beq_false, Bool.not_eq_eq_eq_not, Bool.not_true, Bool.not_false, Bool.not_not, decide_eq_true_eq, decide_eq_false_iff_not, ge_iff_le, gt_iff_lt] at h)))
  all_goals simp_all
def impliesF (oa : Int) (ta : List UInt8) (fa : Bool) (ob : Int) (tb : List UInt8) (fb : Bool) : Bool :=
  if neverF oa ta = true then true else if (ob == 1) = true then true else if (fa && !fb) = true then false else
  if (oa == 2) = true then holdsF ob tb fb ta else if (oa == 4) = true then ((ob == oa) && ((tb == ta) || (fb && lowB ta == lowB tb))) else
  if (oa == 3) = true then (if (ob == oa) = true then ((tb == ta) || (fb && lowB ta == lowB tb)) else ((ob == 7) && holdsF ob tb fb ta)) else
  if (oa == 5) = true then (((ob == oa) || (ob == 7)) && holdsF ob tb fb ta) else if (oa == 6) = true then (((ob == oa) || (ob == 7)) && holdsF ob tb fb ta) else
  if (oa == 7) = true then (((ob == oa) || (ob == 7)) && holdsF ob tb fb ta) else false
set_option maxHeartbeats 4000000 in
theorem implies_L (oa : Int) (ta : List UInt8) (fa : Bool) (ob : Int) (tb : List UInt8) (fb : Bool) (ha : ta.length < 400000000) (hb : tb.length < 400000000) :
    callL Try.prog ext6 17 [condD oa ta fa, condD ob tb fb] [] = some (.bool (impliesF oa ta fa ob tb fb), [.no], []) := by
  have h1 := never_L oa ta fa (by omega)
  have h2 := holds_L ob tb fb ta (by omega) (by omega)
  have h3 := same_L ta tb (by omega) (by omega)
  unfold condD at h1 h2 ⊢
  unfold impliesF
  generalize neverF oa ta = z at h1 ⊢
  generalize holdsF ob tb fb ta = y at h2 ⊢
  generalize (lowB ta == lowB tb) = w at h3 ⊢
  refine callK (m := 91) (res := [4]) (rs := [.tmp 4]) rfl Try.func17 rfl rfl rfl rfl rfl ?_
  cases fa <;> cases fb
  all_goals
    repeat' (first
    | simp only [*, go_nil, go_seq, go_cond, go_block, go_blk, go_skip, go_exit, go_retc, go_xcode, go_xblk, go_loop, go_region, go_draw, go_ops_nil, go_dops_nil, go_ops, go_dops1, go_dops, okG_some, okB_some, gwD_bool, gwD_undef, cwD_bool, gw_true, gw_false, guardG_none, guardG, opG, opD, isPtr, isStore, inB, sval, stake, eats, eaters, get, cval, cval1, croom, St.taken, put_slot, put_room, put_box, put_ctr, put_none, dem_none, dem_slot, dem_box, dem_ctr, dem_room, dem_room1, setBox_slot, setBox_room, setBox_ctr, setBox_box, entry_slot, entry_room, entry_box, entry_ctr, endQ, endR, endV, rvars, rvar, room1, ↓reduceIte, Nat.reduceEqDiff, Nat.reduceLT, Nat.reduceLeDiff, reduceCtorEq, decide_true, decide_false, List.filterMap_cons, List.filterMap_nil, Option.bind_some, Option.map_some, Option.bind_none, Option.map_none, List.getElem?_cons_zero, List.getElem?_cons_succ, List.getD_cons_zero, List.getD_cons_succ, List.contains_cons, List.contains_nil, List.map_cons, List.map_nil, beq_self_eq_true, beq_iff_eq, Bool.or_false, Bool.false_or, Bool.or_true, Bool.true_or, Bool.and_true, Bool.true_and, Nat.reduceBEq, Bool.false_eq_true, dbin, dIntBin, okR, callG, endN, newV, row6, frz6, frzOf_def, frz_nil, frz_cons, frzD, rowList, rowElem, stepRow, madeRow, isLocal, allocKey, isAlloc, loadsOwn, ptrAt, beq_true, beq_false, Bool.not_true, Bool.not_false, pureB, leaf, leafN, List.all_cons, List.all_nil, List.nil_append, List.cons_append, List.append_nil, List.take_nil, List.range_zero, List.length_nil, List.length_cons, String.reduceBEq, Bool.true_beq, Bool.false_beq, List.find?_cons, List.find?_nil, dun, List.getElem?_nil, List.take_zero, List.drop_zero, List.take_succ_cons, List.drop_succ_cons, dcells, Nat.zero_add, Nat.reduceAdd, Nat.reduceSub, Nat.reduceMul, stepBox, Bool.and_false, Bool.false_and, and_true, true_and, List.zipWith, Option.getD_some, List.singleton_append, List.map_map, Int.natCast_nonneg, Int.toNat_natCast, and_self, Nat.mul_one, Nat.add_zero, if_true, St.freeze, false_or, or_true, true_or, or_false, szOk_cons, szOk_nil, List.cons.injEq, false_and, and_false, forall_const, List.getElem?_toArray, List.getElem_toArray, dopt, dbound, ge_iff_le, gt_iff_lt, dStrBin, List.take_length, plainR_s, Int.reduceLE, Int.reduceLT, Int.reduceToNat, Int.reduceBEq, Int.reduceBNe, ty3, ty4, ty5, ty9, ty23, ty25, ty28, ty30, ty41, fap0, fap1, fap2, dp3, dp4, dp5, dp9, dp23, ia25r, ia25, ia28, ia30, ia41, len9, len25, len25r, len28, len30, len41, ix9, sl9, cv53, cv35, cv925, cv259, ap25, ap30, ap41, bs25, bs30, bs41, bs25e, bs30e, bs41e, zr23]
    | (refine drW_intro (by kernel_rfl) ?_)
    | (refine gw_intro (fun h => ?_) (fun h => ?_) <;> (try simp only [beq_true, beq_false, Bool.not_eq_eq_eq_not, Bool.not_true, Bool.not_false, Bool.not_not, decide_eq_true_eq, decide_eq_false_iff_not, ge_iff_le, gt_iff_lt] at h)))
    all_goals try (simp_all; done)
end Go.Av
