/- Chapter 6: what implies, by the document. -/
import Derived.Test.YtcblgonlgnhgmaaAv6l
set_option linter.unusedVariables false
set_option linter.unusedSimpArgs false
namespace Go.Av
open Go.Proofs
def rimpliesF (oa : Int) (ta : List UInt8) (fa : Bool) (ob : Int) (tb : List UInt8) (fb : Bool) : Bool :=
  if rneverF oa ta fa = true then true else if (ob == 1) = true then true else if (fa && !fb) = true then false else
  if (oa == 2) = true then rholdF ob (low1 fb tb) (low1 fb ta) else
  if ((oa == ob) && (oa == 3 || oa == 4)) = true then (if fb = true then lowB ta == lowB tb else ta == tb) else
  if ((oa == ob) && (decide (5 ≤ oa) && decide (oa ≤ 7))) = true then rholdF ob (low1 fb tb) (low1 fb ta) else
  ((oa == 3 || oa == 5 || oa == 6) && ((ob == 7) && rholdF ob (low1 fb tb) (low1 fb ta)))
set_option maxHeartbeats 8000000 in
theorem rimplies_L (oa : Int) (ta : List UInt8) (fa : Bool) (ob : Int) (tb : List UInt8) (fb : Bool) (ha : ta.length < 400000000) (hb : tb.length < 400000000) :
    callL Try.prog ext6 18 [condD oa ta fa, condD ob tb fb] [] = some (.bool (rimpliesF oa ta fa ob tb fb), [.no], []) := by
  have h1 := rnever_L oa ta fa (by omega)
  have h2 := rholds_L ob tb fb ta (by omega) (by omega)
  obtain ⟨r1, h3⟩ := rlower_L ta (by omega)
  obtain ⟨r2, h4⟩ := rlower_L tb (by omega)
  unfold condD at h1 h2 ⊢
  unfold rimpliesF
  generalize rneverF oa ta fa = z at h1 ⊢
  generalize rholdF ob (low1 fb tb) (low1 fb ta) = y at h2 ⊢
  refine callK (m := 100) (res := [4]) (rs := [.tmp 4]) rfl Try.func18 rfl rfl rfl rfl rfl ?_
  cases fa <;> cases fb
  all_goals
    repeat' (first
    | simp only [*, go_nil, go_seq, go_cond, go_block, go_blk, go_skip, go_exit, go_retc, go_xcode, go_xblk, go_loop, go_region, go_draw, go_ops_nil, go_dops_nil, go_ops, go_dops1, go_dops, okG_some, okB_some, gwD_bool, gwD_undef, cwD_bool, gw_true, gw_false, guardG_none, guardG, opG, opD, isPtr, isStore, inB, sval, stake, eats, eaters, get, cval, cval1, croom, St.taken, put_slot, put_room, put_box, put_ctr, put_none, dem_none, dem_slot, dem_box, dem_ctr, dem_room, dem_room1, setBox_slot, setBox_room, setBox_ctr, setBox_box, entry_slot, entry_room, entry_box, entry_ctr, endQ, endR, endV, rvars, rvar, room1, ↓reduceIte, Nat.reduceEqDiff, Nat.reduceLT, Nat.reduceLeDiff, reduceCtorEq, decide_true, decide_false, List.filterMap_cons, List.filterMap_nil, Option.bind_some, Option.map_some, Option.bind_none, Option.map_none, List.getElem?_cons_zero, List.getElem?_cons_succ, List.getD_cons_zero, List.getD_cons_succ, List.contains_cons, List.contains_nil, List.map_cons, List.map_nil, beq_self_eq_true, beq_iff_eq, Bool.or_false, Bool.false_or, Bool.or_true, Bool.true_or, Bool.and_true, Bool.true_and, Nat.reduceBEq, Bool.false_eq_true, dbin, dIntBin, okR, callG, endN, newV, row6, frz6, frzOf_def, frz_nil, frz_cons, frzD, rowList, rowElem, stepRow, madeRow, isLocal, allocKey, isAlloc, loadsOwn, ptrAt, beq_true, beq_false, Bool.not_true, Bool.not_false, pureB, leaf, leafN, List.all_cons, List.all_nil, List.nil_append, List.cons_append, List.append_nil, List.take_nil, List.range_zero, List.length_nil, List.length_cons, String.reduceBEq, Bool.true_beq, Bool.false_beq, List.find?_cons, List.find?_nil, dun, List.getElem?_nil, List.take_zero, List.drop_zero, List.take_succ_cons, List.drop_succ_cons, dcells, Nat.zero_add, Nat.reduceAdd, Nat.reduceSub, Nat.reduceMul, stepBox, Bool.and_false, Bool.false_and, and_true, true_and, List.zipWith, Option.getD_some, List.singleton_append, List.map_map, Int.natCast_nonneg, Int.toNat_natCast, and_self, Nat.mul_one, Nat.add_zero, if_true, St.freeze, false_or, or_true, true_or, or_false, szOk_cons, szOk_nil, List.cons.injEq, false_and, and_false, forall_const, List.getElem?_toArray, List.getElem_toArray, dopt, dbound, ge_iff_le, gt_iff_lt, dStrBin, List.take_length, plainR_s, Int.reduceLE, Int.reduceLT, Int.reduceToNat, Int.reduceBEq, Int.reduceBNe, ty3, ty4, ty5, ty9, ty23, ty25, ty28, ty30, ty41, fap0, fap1, fap2, dp3, dp4, dp5, dp9, dp23, ia25r, ia25, ia28, ia30, ia41, len9, len25, len25r, len28, len30, len41, ix9, sl9, cv53, cv35, cv925, cv259, ap25, ap30, ap41, bs25, bs30, bs41, bs25e, bs30e, bs41e, zr23]
    | (refine drW_intro (by kernel_rfl) ?_)
    | (refine gw_intro (fun h => ?_) (fun h => ?_) <;> (try simp only [beq_true, beq_false, Bool.not_eq_eq_eq_not, Bool.not_true, Bool.not_false, Bool.not_not, decide_eq_true_eq, decide_eq_false_iff_not, ge_iff_le, gt_iff_lt] at h)))
    all_goals try (simp_all; done)
end Go.Av
