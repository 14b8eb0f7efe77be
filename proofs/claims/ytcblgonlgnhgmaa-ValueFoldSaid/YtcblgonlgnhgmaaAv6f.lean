/- Chapter 6: what never holds, what holds. -/
import Derived.Test.YtcblgonlgnhgmaaAv6d
set_option linter.unusedVariables false
set_option linter.unusedSimpArgs false
namespace Go.Av
open Go.Proofs
theorem low1_len (fold : Bool) (l : List UInt8) : (low1 fold l).length = l.length := by
  unfold low1 lowB
  split
  · simp
  · rfl
theorem names_L (s : List UInt8) (hs : s.length < 1000000000) : callL Try.prog ext6 21 [.str s] [] = some (.list ((partsB s []).map .str), [.no], []) := by
  refine callK (m := 5) (res := [2]) (rs := [.tmp 2]) rfl Try.func21 rfl rfl rfl rfl rfl ?_
  have h1 : callL Try.prog ext6 34 [.str s, .func (.func 35) [] []] [] = some (.list ((partsB s []).map .str), [], []) := callL_ext (by
    show (if s.length ≤ 4294967296 then _ else _) = _
    rw [if_pos (by omega)])
  repeat' (first
    | simp only [*, go_nil, go_seq, go_cond, go_block, go_blk, go_skip, go_exit, go_retc, go_xcode, go_xblk, go_loop, go_region, go_draw, go_ops_nil, go_dops_nil, go_ops, go_dops1, go_dops, okG_some, okB_some, gwD_bool, gwD_undef, cwD_bool, gw_true, gw_false, guardG_none, guardG, opG, opD, isPtr, isStore, inB, sval, stake, eats, eaters, get, cval, cval1, croom, St.taken, put_slot, put_room, put_box, put_ctr, put_none, dem_none, dem_slot, dem_box, dem_ctr, dem_room, dem_room1, setBox_slot, setBox_room, setBox_ctr, setBox_box, entry_slot, entry_room, entry_box, entry_ctr, endQ, endR, endV, rvars, rvar, room1, ↓reduceIte, Nat.reduceEqDiff, Nat.reduceLT, Nat.reduceLeDiff, reduceCtorEq, decide_true, decide_false, List.filterMap_cons, List.filterMap_nil, Option.bind_some, Option.map_some, Option.bind_none, Option.map_none, List.getElem?_cons_zero, List.getElem?_cons_succ, List.getD_cons_zero, List.getD_cons_succ, List.contains_cons, List.contains_nil, List.map_cons, List.map_nil, beq_self_eq_true, beq_iff_eq, Bool.or_false, Bool.false_or, Bool.or_true, Bool.true_or, Bool.and_true, Bool.true_and, Nat.reduceBEq, Bool.false_eq_true, dbin, dIntBin, okR, callG, endN, newV, row6, frz6, frzOf_def, frz_nil, frz_cons, frzD, rowList, rowElem, stepRow, madeRow, isLocal, allocKey, isAlloc, loadsOwn, ptrAt, beq_true, beq_false, Bool.not_true, Bool.not_false, pureB, leaf, leafN, List.all_cons, List.all_nil, List.nil_append, List.cons_append, List.append_nil, List.take_nil, List.range_zero, List.length_nil, List.length_cons, String.reduceBEq, Bool.true_beq, Bool.false_beq, List.find?_cons, List.find?_nil, dun, List.getElem?_nil, List.take_zero, List.drop_zero, List.take_succ_cons, List.drop_succ_cons, dcells, Nat.zero_add, Nat.reduceAdd, Nat.reduceSub, Nat.reduceMul, stepBox, Bool.and_false, Bool.false_and, and_true, true_and, List.zipWith, Option.getD_some, List.singleton_append, List.map_map, Int.natCast_nonneg, Int.toNat_natCast, and_self, Nat.mul_one, Nat.add_zero, if_true, St.freeze, false_or, or_true, true_or, or_false, szOk_cons, szOk_nil, List.cons.injEq, false_and, and_false, forall_const, List.getElem?_toArray, List.getElem_toArray, dopt, dbound, ge_iff_le, gt_iff_lt, dStrBin, List.take_length, plainR_s, Int.reduceLE, Int.reduceLT, Int.reduceToNat, Int.reduceBEq, Int.reduceBNe, ty3, ty4, ty5, ty9, ty23, ty25, ty28, ty30, ty41, fap0, fap1, fap2, dp3, dp4, dp5, dp9, dp23, ia25r, ia25, ia28, ia30, ia41, len9, len25, len25r, len28, len30, len41, ix9, sl9, cv53, cv35, cv925, cv259, ap25, ap30, ap41, bs25, bs30, bs41, bs25e, bs30e, bs41e, zr23]
    | (refine drW_intro (by kernel_rfl) ?_)
    | (refine gw_intro (fun h => ?_) (fun h => ?_) <;> (try simp only [beq_true, beq_false, Bool.not_eq_eq_eq_not, Bool.not_true, Bool.not_false, Bool.not_not, decide_eq_true_eq, decide_eq_false_iff_not, ge_iff_le, gt_iff_lt] at h)))
def neverF (op : Int) (t : List UInt8) : Bool :=
  if (op == 1) = true then false else if (op == 2) = true then false else if (op == 4) = true then false else
  if (op == 3) = true then (t.any blankB || t == []) else if (op == 5) = true then t == [] else if (op == 6) = true then t == [] else if (op == 7) = true then t == [] else true
set_option maxHeartbeats 1000000 in
theorem never_L (op : Int) (t : List UInt8) (fold : Bool) (ht : t.length < 1000000000) : callL Try.prog ext6 15 [condD op t fold] [] = some (.bool (neverF op t), [.no], []) := by
  unfold condD neverF
  refine callK (m := 21) (res := [2]) (rs := [.tmp 2]) rfl Try.func15 rfl rfl rfl rfl rfl ?_
  have h1 := blank_L t ht
  repeat' (first
    | simp only [*, go_nil, go_seq, go_cond, go_block, go_blk, go_skip, go_exit, go_retc, go_xcode, go_xblk, go_loop, go_region, go_draw, go_ops_nil, go_dops_nil, go_ops, go_dops1, go_dops, okG_some, okB_some, gwD_bool, gwD_undef, cwD_bool, gw_true, gw_false, guardG_none, guardG, opG, opD, isPtr, isStore, inB, sval, stake, eats, eaters, get, cval, cval1, croom, St.taken, put_slot, put_room, put_box, put_ctr, put_none, dem_none, dem_slot, dem_box, dem_ctr, dem_room, dem_room1, setBox_slot, setBox_room, setBox_ctr, setBox_box, entry_slot, entry_room, entry_box, entry_ctr, endQ, endR, endV, rvars, rvar, room1, ↓reduceIte, Nat.reduceEqDiff, Nat.reduceLT, Nat.reduceLeDiff, reduceCtorEq, decide_true, decide_false, List.filterMap_cons, List.filterMap_nil, Option.bind_some, Option.map_some, Option.bind_none, Option.map_none, List.getElem?_cons_zero, List.getElem?_cons_succ, List.getD_cons_zero, List.getD_cons_succ, List.contains_cons, List.contains_nil, List.map_cons, List.map_nil, beq_self_eq_true, beq_iff_eq, Bool.or_false, Bool.false_or, Bool.or_true, Bool.true_or, Bool.and_true, Bool.true_and, Nat.reduceBEq, Bool.false_eq_true, dbin, dIntBin, okR, callG, endN, newV, row6, frz6, frzOf_def, frz_nil, frz_cons, frzD, rowList, rowElem, stepRow, madeRow, isLocal, allocKey, isAlloc, loadsOwn, ptrAt, beq_true, beq_false, Bool.not_true, Bool.not_false, pureB, leaf, leafN, List.all_cons, List.all_nil, List.nil_append, List.cons_append, List.append_nil, List.take_nil, List.range_zero, List.length_nil, List.length_cons, String.reduceBEq, Bool.true_beq, Bool.false_beq, List.find?_cons, List.find?_nil, dun, List.getElem?_nil, List.take_zero, List.drop_zero, List.take_succ_cons, List.drop_succ_cons, dcells, Nat.zero_add, Nat.reduceAdd, Nat.reduceSub, Nat.reduceMul, stepBox, Bool.and_false, Bool.false_and, and_true, true_and, List.zipWith, Option.getD_some, List.singleton_append, List.map_map, Int.natCast_nonneg, Int.toNat_natCast, and_self, Nat.mul_one, Nat.add_zero, if_true, St.freeze, false_or, or_true, true_or, or_false, szOk_cons, szOk_nil, List.cons.injEq, false_and, and_false, forall_const, List.getElem?_toArray, List.getElem_toArray, dopt, dbound, ge_iff_le, gt_iff_lt, dStrBin, List.take_length, plainR_s, Int.reduceLE, Int.reduceLT, Int.reduceToNat, Int.reduceBEq, Int.reduceBNe, ty3, ty4, ty5, ty9, ty23, ty25, ty28, ty30, ty41, fap0, fap1, fap2, dp3, dp4, dp5, dp9, dp23, ia25r, ia25, ia28, ia30, ia41, len9, len25, len25r, len28, len30, len41, ix9, sl9, cv53, cv35, cv925, cv259, ap25, ap30, ap41, bs25, bs30, bs41, bs25e, bs30e, bs41e, zr23]
    | (refine drW_intro (by kernel_rfl) ?_)
    | (refine gw_intro (fun h => ?_) (fun h => ?_) <;> (try simp only [beq_true, beq_false, Bool.not_eq_eq_eq_not, Bool.not_true, Bool.not_false, Bool.not_not, decide_eq_true_eq, decide_eq_false_iff_not, ge_iff_le, gt_iff_lt] at h)))
  all_goals simp_all
def dashF (t v : List UInt8) : Bool := preB t v && (v.drop t.length == [] || (v.drop t.length).getD 0 0 == 45)
def sufF (t v : List UInt8) : Bool := decide (t.length ≤ v.length) && (v.drop (v.length - t.length) == t)
def holdF (op : Int) (t v : List UInt8) : Bool :=
  if (op == 2) = true then v == t else if (op == 3) = true then (partsB v []).contains t else if (op == 4) = true then dashF t v else
  if (op == 5) = true then preB t v else if (op == 6) = true then sufF t v else if (op == 7) = true then hasB t v else true
def holdsF (op : Int) (t : List UInt8) (fold : Bool) (v : List UInt8) : Bool := if neverF op t = true then false else holdF op (low1 fold t) (low1 fold v)
theorem parts_len : ∀ (s p : List UInt8), (partsB s p).length ≤ s.length + 1
  | [], p => by unfold partsB; split <;> simp
  | x :: r, p => by
    unfold partsB
    have h1 := parts_len r []
    have h2 := parts_len r (p ++ [x])
    split
    · split
      · simp; omega
      · simp; omega
    · simp; omega
theorem byte45 (x : UInt8) : ((x.toNat : Int) == 45) = (x == 45) := by
  rw [Bool.eq_iff_iff, beq_iff_eq, beq_iff_eq, ← UInt8.toNat_inj]
  have : (45 : UInt8).toNat = 45 := rfl
  omega
set_option maxHeartbeats 2000000 in
theorem holds_L (op : Int) (t : List UInt8) (fold : Bool) (v : List UInt8) (ht : t.length < 900000000) (hv : v.length < 900000000) : callL Try.prog ext6 9 [condD op t fold, .str v] [] = some (.bool (holdsF op t fold v), [.no], []) := by
  have h1 : callL Try.prog ext6 15 [.agg [.int .i64 op, .str t, .bool fold]] [] = _ := never_L op t fold (by omega)
  have h2 : callL Try.prog ext6 19 [.agg [.int .i64 op, .str t, .bool fold], .str v] [] = some (.tuple [.agg [.int .i64 op, .str (low1 fold t), .bool fold], .str (low1 fold v)], [.no, .no], []) := plain_L op t v fold (by omega) (by omega)
  have hv' : (low1 fold v).length < 900000000 := by rw [low1_len]; exact hv
  have ht' : (low1 fold t).length < 900000000 := by rw [low1_len]; exact ht
  unfold condD holdsF
  generalize low1 fold t = t' at *
  generalize low1 fold v = v' at *
  have h3 := names_L v' (by omega)
  have h4 := contains_L (partsB v' []) t' (by have := parts_len v' []; omega)
  obtain ⟨rc, h5⟩ := cut_L v' t'
  have h6 := pre_L v' t'
  have h7 : callL Try.prog ext6 24 [.str v', .str t'] [] = some (.bool (sufF t' v'), [.no], []) := suf_L v' t' (by omega) (by omega)
  have h8 : callL Try.prog ext6 25 [.str v', .str t'] [] = some (.bool (hasB t' v'), [], []) := callL_ext (by
    show (if v'.length < 4294967281 then _ else _) = _
    rw [if_pos (by omega)])
  unfold holdF dashF
  refine callK (m := 67) (res := [4]) (rs := [.tmp 4]) rfl Try.func9 rfl rfl rfl rfl rfl ?_
  generalize List.drop t'.length v' = rest at h5 ⊢
  cases rest with
  | nil =>
    have he : ((([] : List UInt8) == []) = true) := rfl
    repeat' (first
    | simp only [*, go_nil, go_seq, go_cond, go_block, go_blk, go_skip, go_exit, go_retc, go_xcode, go_xblk, go_loop, go_region, go_draw, go_ops_nil, go_dops_nil, go_ops, go_dops1, go_dops, okG_some, okB_some, gwD_bool, gwD_undef, cwD_bool, gw_true, gw_false, guardG_none, guardG, opG, opD, isPtr, isStore, inB, sval, stake, eats, eaters, get, cval, cval1, croom, St.taken, put_slot, put_room, put_box, put_ctr, put_none, dem_none, dem_slot, dem_box, dem_ctr, dem_room, dem_room1, setBox_slot, setBox_room, setBox_ctr, setBox_box, entry_slot, entry_room, entry_box, entry_ctr, endQ, endR, endV, rvars, rvar, room1, ↓reduceIte, Nat.reduceEqDiff, Nat.reduceLT, Nat.reduceLeDiff, reduceCtorEq, decide_true, decide_false, List.filterMap_cons, List.filterMap_nil, Option.bind_some, Option.map_some, Option.bind_none, Option.map_none, List.getElem?_cons_zero, List.getElem?_cons_succ, List.getD_cons_zero, List.getD_cons_succ, List.contains_cons, List.contains_nil, List.map_cons, List.map_nil, beq_self_eq_true, beq_iff_eq, Bool.or_false, Bool.false_or, Bool.or_true, Bool.true_or, Bool.and_true, Bool.true_and, Nat.reduceBEq, Bool.false_eq_true, dbin, dIntBin, okR, callG, endN, newV, row6, frz6, frzOf_def, frz_nil, frz_cons, frzD, rowList, rowElem, stepRow, madeRow, isLocal, allocKey, isAlloc, loadsOwn, ptrAt, beq_true, beq_false, Bool.not_true, Bool.not_false, pureB, leaf, leafN, List.all_cons, List.all_nil, List.nil_append, List.cons_append, List.append_nil, List.take_nil, List.range_zero, List.length_nil, List.length_cons, String.reduceBEq, Bool.true_beq, Bool.false_beq, List.find?_cons, List.find?_nil, dun, List.getElem?_nil, List.take_zero, List.drop_zero, List.take_succ_cons, List.drop_succ_cons, dcells, Nat.zero_add, Nat.reduceAdd, Nat.reduceSub, Nat.reduceMul, stepBox, Bool.and_false, Bool.false_and, and_true, true_and, List.zipWith, Option.getD_some, List.singleton_append, List.map_map, Int.natCast_nonneg, Int.toNat_natCast, and_self, Nat.mul_one, Nat.add_zero, if_true, St.freeze, false_or, or_true, true_or, or_false, szOk_cons, szOk_nil, List.cons.injEq, false_and, and_false, forall_const, List.getElem?_toArray, List.getElem_toArray, dopt, dbound, ge_iff_le, gt_iff_lt, dStrBin, List.take_length, plainR_s, Int.reduceLE, Int.reduceLT, Int.reduceToNat, Int.reduceBEq, Int.reduceBNe, ty3, ty4, ty5, ty9, ty23, ty25, ty28, ty30, ty41, fap0, fap1, fap2, dp3, dp4, dp5, dp9, dp23, ia25r, ia25, ia28, ia30, ia41, len9, len25, len25r, len28, len30, len41, ix9, sl9, cv53, cv35, cv925, cv259, ap25, ap30, ap41, bs25, bs30, bs41, bs25e, bs30e, bs41e, zr23]
    | (refine drW_intro (by kernel_rfl) ?_)
    | (refine gw_intro (fun h => ?_) (fun h => ?_) <;> (try simp only [beq_true, beq_false, Bool.not_eq_eq_eq_not, Bool.not_true, Bool.not_false, Bool.not_not, decide_eq_true_eq, decide_eq_false_iff_not, ge_iff_le, gt_iff_lt] at h)))
    all_goals try (simp_all; done)
  | cons x r =>
    have he : ((x :: r == []) = false) := rfl
    have hpos : (0 : Int) < ((r.length + 1 : Nat) : Int) := by omega
    have hx := byte45 x
    repeat' (first
    | simp only [*, go_nil, go_seq, go_cond, go_block, go_blk, go_skip, go_exit, go_retc, go_xcode, go_xblk, go_loop, go_region, go_draw, go_ops_nil, go_dops_nil, go_ops, go_dops1, go_dops, okG_some, okB_some, gwD_bool, gwD_undef, cwD_bool, gw_true, gw_false, guardG_none, guardG, opG, opD, isPtr, isStore, inB, sval, stake, eats, eaters, get, cval, cval1, croom, St.taken, put_slot, put_room, put_box, put_ctr, put_none, dem_none, dem_slot, dem_box, dem_ctr, dem_room, dem_room1, setBox_slot, setBox_room, setBox_ctr, setBox_box, entry_slot, entry_room, entry_box, entry_ctr, endQ, endR, endV, rvars, rvar, room1, ↓reduceIte, Nat.reduceEqDiff, Nat.reduceLT, Nat.reduceLeDiff, reduceCtorEq, decide_true, decide_false, List.filterMap_cons, List.filterMap_nil, Option.bind_some, Option.map_some, Option.bind_none, Option.map_none, List.getElem?_cons_zero, List.getElem?_cons_succ, List.getD_cons_zero, List.getD_cons_succ, List.contains_cons, List.contains_nil, List.map_cons, List.map_nil, beq_self_eq_true, beq_iff_eq, Bool.or_false, Bool.false_or, Bool.or_true, Bool.true_or, Bool.and_true, Bool.true_and, Nat.reduceBEq, Bool.false_eq_true, dbin, dIntBin, okR, callG, endN, newV, row6, frz6, frzOf_def, frz_nil, frz_cons, frzD, rowList, rowElem, stepRow, madeRow, isLocal, allocKey, isAlloc, loadsOwn, ptrAt, beq_true, beq_false, Bool.not_true, Bool.not_false, pureB, leaf, leafN, List.all_cons, List.all_nil, List.nil_append, List.cons_append, List.append_nil, List.take_nil, List.range_zero, List.length_nil, List.length_cons, String.reduceBEq, Bool.true_beq, Bool.false_beq, List.find?_cons, List.find?_nil, dun, List.getElem?_nil, List.take_zero, List.drop_zero, List.take_succ_cons, List.drop_succ_cons, dcells, Nat.zero_add, Nat.reduceAdd, Nat.reduceSub, Nat.reduceMul, stepBox, Bool.and_false, Bool.false_and, and_true, true_and, List.zipWith, Option.getD_some, List.singleton_append, List.map_map, Int.natCast_nonneg, Int.toNat_natCast, and_self, Nat.mul_one, Nat.add_zero, if_true, St.freeze, false_or, or_true, true_or, or_false, szOk_cons, szOk_nil, List.cons.injEq, false_and, and_false, forall_const, List.getElem?_toArray, List.getElem_toArray, dopt, dbound, ge_iff_le, gt_iff_lt, dStrBin, List.take_length, plainR_s, Int.reduceLE, Int.reduceLT, Int.reduceToNat, Int.reduceBEq, Int.reduceBNe, ty3, ty4, ty5, ty9, ty23, ty25, ty28, ty30, ty41, fap0, fap1, fap2, dp3, dp4, dp5, dp9, dp23, ia25r, ia25, ia28, ia30, ia41, len9, len25, len25r, len28, len30, len41, ix9, sl9, cv53, cv35, cv925, cv259, ap25, ap30, ap41, bs25, bs30, bs41, bs25e, bs30e, bs41e, zr23]
    | (refine drW_intro (by kernel_rfl) ?_)
    | (refine gw_intro (fun h => ?_) (fun h => ?_) <;> (try simp only [beq_true, beq_false, Bool.not_eq_eq_eq_not, Bool.not_true, Bool.not_false, Bool.not_not, decide_eq_true_eq, decide_eq_false_iff_not, ge_iff_le, gt_iff_lt] at h)))
    all_goals try (simp_all; done)
end Go.Av
