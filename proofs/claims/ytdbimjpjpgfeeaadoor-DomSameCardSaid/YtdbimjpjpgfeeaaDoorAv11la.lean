/- Chapter 11: DomSame's function hands back true, whatever the documents. -/
import Derived.Test.YtdbimjpjpgfeeaaDoorAv11u
import Derived.Test.YtdbimjpjpgfeeaaDoorAv11gr
import Derived.Test.YtdbimjpjpgfeeaaDoorAv11k
set_option linter.unusedSimpArgs false
set_option linter.unusedVariables false
set_option linter.unusedSectionVars false
set_option maxRecDepth 100000
namespace Go.Av
open Go.Proofs
theorem callL_ext {P : Program} [Gs] {ext : Call} {f : FuncId} {args : List D} {pbs : List Bx} {r : D × List Room × List Bx} (h : ext f args pbs = some r) : callL P ext f args pbs = some r :=
  aev_callL (N := 1) (by simp only [aev, h])
theorem sp11 : callL Tryd.prog (ext11b chkA) 7 [] [] = some (.bool true, [.no], []) := aev_callL speaks11
variable {chk : List D → Bool}
theorem great_small {ns : List Nd} {m : Nat} (h : greatF ns m = false) (hm : m ≤ 10000) : Small ns := by
  unfold greatF at h
  simp only [Bool.or_eq_false_iff, decide_eq_false_iff_not, List.any_eq_false] at h
  refine ⟨by omega, fun n hn => ?_⟩
  have h1 := h.2 n hn
  unfold ndG ndG0 at h1
  simp only [Bool.or_eq_true, decide_eq_true_eq, not_or] at h1
  omega
theorem nodes_ok {ns : List Nd} (h : Small ns) : nodesOk (ns.map Nd.d) = true := by
  unfold nodesOk
  simp only [Bool.and_eq_true, List.all_eq_true, decide_eq_true_eq, List.length_map]
  refine ⟨fun e he => ?_, h.1⟩
  obtain ⟨n, hn, rfl⟩ := List.mem_map.1 he
  have h2 := h.2 n hn
  show ((n.at_.map At.d).all (fun e => (dcells e).length == 3) && (n.st.map D.str).all (fun e => (dcells e).length == 1) && decide ((n.at_.map At.d).length ≤ 1000000) && decide ((n.st.map D.str).length ≤ 1000000)) = true
  simp only [Bool.and_eq_true, List.all_eq_true, decide_eq_true_eq, List.length_map]
  refine ⟨⟨⟨?_, ?_⟩, h2.1⟩, h2.2⟩ <;> intro e he <;> obtain ⟨x, _, rfl⟩ := List.mem_map.1 he <;> rfl
theorem lcop_L (ns : List Nd) (h : Small ns) : callL Tryd.prog (ext11b chk) 19 [.list (ns.map Nd.d)] [] = some (.list (ns.map Nd.d), [], []) := by
  refine callL_ext ?_
  show (if nodesOk (ns.map Nd.d) = true then some (D.list (ns.map Nd.d), ([] : List Room), ([] : List Bx)) else none) = _
  rw [if_pos (nodes_ok h)]
set_option maxHeartbeats 8000000 in
theorem law4_L (a b : List Nd) : ∃ r, callL Tryd.prog (ext11b chkA) 4 [.list (a.map Nd.d), .list (b.map Nd.d)] [] = some (.bool true, [r], []) := by
  have h0 := sp11
  have ga : callL Tryd.prog (ext11b chkA) 9 [.list (a.map Nd.d), .int .i64 200] [] = some (.bool (greatF a 200), [.no], []) := great_L (chk := chkA) a 200 (by decide)
  have gb : callL Tryd.prog (ext11b chkA) 9 [.list (b.map Nd.d), .int .i64 200] [] = some (.bool (greatF b 200), [.no], []) := great_L (chk := chkA) b 200 (by decide)
  refine ⟨.no, ?_⟩
  cases ca : greatF a 200 with
  | true =>
    rw [ca] at ga
    clear gb ca
    generalize a.map Nd.d = A at *
    generalize b.map Nd.d = B at *
    refine callK (m := 26) (res := [4]) (rs := [.tmp 4]) rfl Tryd.func4 rfl rfl rfl rfl rfl ?_
    repeat' (first
    | simp only [*, go_nil, go_seq, go_cond, go_block, go_blk, go_skip, go_exit, go_retc, go_xcode, go_xblk, go_loop, go_region, go_draw, go_ops_nil, go_dops_nil, go_ops, go_dops1, go_dops, okG_some, okB_some, gwD_bool, gwD_undef, cwD_bool, gw_true, gw_false, guardG_none, guardG, opG, opD, isPtr, isStore, inB, sval, stake, eats, eaters, get, cval, cval1, croom, St.taken, put_slot, put_room, put_box, put_ctr, put_none, dem_none, dem_slot, dem_box, dem_ctr, dem_room, dem_room1, setBox_slot, setBox_room, setBox_ctr, setBox_box, entry_slot, entry_room, entry_box, entry_ctr, endQ, endR, endV, rvars, rvar, room1, ↓reduceIte, Nat.reduceEqDiff, Nat.reduceLT, Nat.reduceLeDiff, reduceCtorEq, decide_true, decide_false, List.filterMap_cons, List.filterMap_nil, Option.bind_some, Option.map_some, Option.bind_none, Option.map_none, List.getElem?_cons_zero, List.getElem?_cons_succ, List.getD_cons_zero, List.getD_cons_succ, List.contains_cons, List.contains_nil, List.map_cons, List.map_nil, beq_self_eq_true, beq_iff_eq, Bool.or_false, Bool.false_or, Bool.or_true, Bool.true_or, Bool.and_true, Bool.true_and, Nat.reduceBEq, Bool.false_eq_true, dbin, dIntBin, okR, callG, endN, newV, row11, frz11, frzOf_def, frz_nil, frz_cons, frzD, rowList, rowElem, stepRow, madeRow, isLocal, allocKey, isAlloc, loadsOwn, ptrAt, beq_true, beq_false, Bool.not_true, Bool.not_false, pureB, leaf, leafN, List.all_cons, List.all_nil, List.nil_append, List.cons_append, List.append_nil, List.take_nil, List.range_zero, List.length_nil, List.length_cons, String.reduceBEq, Bool.true_beq, Bool.false_beq, List.find?_cons, List.find?_nil, dun, List.getElem?_nil, List.take_zero, List.drop_zero, List.take_succ_cons, List.drop_succ_cons, dcells, Nat.zero_add, Nat.reduceAdd, Nat.reduceSub, Nat.reduceMul, stepBox, Bool.and_false, Bool.false_and, and_true, true_and, List.zipWith, Option.getD_some, List.singleton_append, List.map_map, Int.natCast_nonneg, Int.toNat_natCast, and_self, Nat.mul_one, Nat.add_zero, if_true, St.freeze, false_or, or_true, true_or, or_false, szOk_cons, szOk_nil, List.cons.injEq, false_and, and_false, forall_const, List.getElem?_toArray, List.getElem_toArray, dopt, dbound, ge_iff_le, gt_iff_lt, dStrBin, List.take_length, plainR_s, Int.reduceLE, Int.reduceLT, Int.reduceToNat, Int.reduceBEq, Int.reduceBNe, ty3, dp3, ty4, dp4, ty9, dp9, ty5, dp5, ty74, dp74, ty26, dp26, fa26_0, fp26_0, fa26_1, fp26_1, fa26_2, fp26_2, fa26_3, fp26_3, fa26_4, fp26_4, fa26_5, fp26_5, fa26_6, fp26_6, ty54, dp54, fa54_0, fp54_0, fa54_1, fp54_1, fa54_2, fp54_2, zr26, zr54, ty22, dp22, ia22, len22, sl22, ty23, dp23, ia23, len23, sl23, ty24, dp24, ia24, len24, sl24, ty39, dp39, ia39, len39, sl39, ty81, dp81, ia81, len81, sl81, len9, eq54, cv981, frz11b, frz11c]
    | (refine drW_intro (by kernel_rfl) ?_)
    | (refine gw_intro (fun h => ?_) (fun h => ?_) <;> (try simp only [beq_true, beq_false, Bool.not_eq_eq_eq_not, Bool.not_true, Bool.not_false, Bool.not_not, decide_eq_true_eq, decide_eq_false_iff_not, ge_iff_le, gt_iff_lt] at h)))
  | false =>
    have sa := great_small ca (by decide)
    rw [ca] at ga
    clear ca
    cases cb : greatF b 200 with
    | true =>
      rw [cb] at gb
      clear cb sa
      generalize a.map Nd.d = A at *
      generalize b.map Nd.d = B at *
      refine callK (m := 26) (res := [4]) (rs := [.tmp 4]) rfl Tryd.func4 rfl rfl rfl rfl rfl ?_
      repeat' (first
    | simp only [*, go_nil, go_seq, go_cond, go_block, go_blk, go_skip, go_exit, go_retc, go_xcode, go_xblk, go_loop, go_region, go_draw, go_ops_nil, go_dops_nil, go_ops, go_dops1, go_dops, okG_some, okB_some, gwD_bool, gwD_undef, cwD_bool, gw_true, gw_false, guardG_none, guardG, opG, opD, isPtr, isStore, inB, sval, stake, eats, eaters, get, cval, cval1, croom, St.taken, put_slot, put_room, put_box, put_ctr, put_none, dem_none, dem_slot, dem_box, dem_ctr, dem_room, dem_room1, setBox_slot, setBox_room, setBox_ctr, setBox_box, entry_slot, entry_room, entry_box, entry_ctr, endQ, endR, endV, rvars, rvar, room1, ↓reduceIte, Nat.reduceEqDiff, Nat.reduceLT, Nat.reduceLeDiff, reduceCtorEq, decide_true, decide_false, List.filterMap_cons, List.filterMap_nil, Option.bind_some, Option.map_some, Option.bind_none, Option.map_none, List.getElem?_cons_zero, List.getElem?_cons_succ, List.getD_cons_zero, List.getD_cons_succ, List.contains_cons, List.contains_nil, List.map_cons, List.map_nil, beq_self_eq_true, beq_iff_eq, Bool.or_false, Bool.false_or, Bool.or_true, Bool.true_or, Bool.and_true, Bool.true_and, Nat.reduceBEq, Bool.false_eq_true, dbin, dIntBin, okR, callG, endN, newV, row11, frz11, frzOf_def, frz_nil, frz_cons, frzD, rowList, rowElem, stepRow, madeRow, isLocal, allocKey, isAlloc, loadsOwn, ptrAt, beq_true, beq_false, Bool.not_true, Bool.not_false, pureB, leaf, leafN, List.all_cons, List.all_nil, List.nil_append, List.cons_append, List.append_nil, List.take_nil, List.range_zero, List.length_nil, List.length_cons, String.reduceBEq, Bool.true_beq, Bool.false_beq, List.find?_cons, List.find?_nil, dun, List.getElem?_nil, List.take_zero, List.drop_zero, List.take_succ_cons, List.drop_succ_cons, dcells, Nat.zero_add, Nat.reduceAdd, Nat.reduceSub, Nat.reduceMul, stepBox, Bool.and_false, Bool.false_and, and_true, true_and, List.zipWith, Option.getD_some, List.singleton_append, List.map_map, Int.natCast_nonneg, Int.toNat_natCast, and_self, Nat.mul_one, Nat.add_zero, if_true, St.freeze, false_or, or_true, true_or, or_false, szOk_cons, szOk_nil, List.cons.injEq, false_and, and_false, forall_const, List.getElem?_toArray, List.getElem_toArray, dopt, dbound, ge_iff_le, gt_iff_lt, dStrBin, List.take_length, plainR_s, Int.reduceLE, Int.reduceLT, Int.reduceToNat, Int.reduceBEq, Int.reduceBNe, ty3, dp3, ty4, dp4, ty9, dp9, ty5, dp5, ty74, dp74, ty26, dp26, fa26_0, fp26_0, fa26_1, fp26_1, fa26_2, fp26_2, fa26_3, fp26_3, fa26_4, fp26_4, fa26_5, fp26_5, fa26_6, fp26_6, ty54, dp54, fa54_0, fp54_0, fa54_1, fp54_1, fa54_2, fp54_2, zr26, zr54, ty22, dp22, ia22, len22, sl22, ty23, dp23, ia23, len23, sl23, ty24, dp24, ia24, len24, sl24, ty39, dp39, ia39, len39, sl39, ty81, dp81, ia81, len81, sl81, len9, eq54, cv981, frz11b, frz11c]
    | (refine drW_intro (by kernel_rfl) ?_)
    | (refine gw_intro (fun h => ?_) (fun h => ?_) <;> (try simp only [beq_true, beq_false, Bool.not_eq_eq_eq_not, Bool.not_true, Bool.not_false, Bool.not_not, decide_eq_true_eq, decide_eq_false_iff_not, ge_iff_le, gt_iff_lt] at h)))
    | false =>
      have sb := great_small cb (by decide)
      rw [cb] at gb
      have h1 := dsame_L (chk := chkA) a b sa sb
      have h2 := rsame_L (chk := chkA) a b sa sb
      have h3 := dsame_L (chk := chkA) a a sa sa
      have h4 := lcop_L (chk := chkA) a sa
      rw [decide_eq_true rfl] at h3
      generalize decide (a = b) = z at *
      have e1 : (z == z) = true := by simp
      clear sa sb cb
      generalize a.map Nd.d = A at *
      generalize b.map Nd.d = B at *
      refine callK (m := 26) (res := [4]) (rs := [.tmp 4]) rfl Tryd.func4 rfl rfl rfl rfl rfl ?_
      repeat' (first
    | simp only [*, go_nil, go_seq, go_cond, go_block, go_blk, go_skip, go_exit, go_retc, go_xcode, go_xblk, go_loop, go_region, go_draw, go_ops_nil, go_dops_nil, go_ops, go_dops1, go_dops, okG_some, okB_some, gwD_bool, gwD_undef, cwD_bool, gw_true, gw_false, guardG_none, guardG, opG, opD, isPtr, isStore, inB, sval, stake, eats, eaters, get, cval, cval1, croom, St.taken, put_slot, put_room, put_box, put_ctr, put_none, dem_none, dem_slot, dem_box, dem_ctr, dem_room, dem_room1, setBox_slot, setBox_room, setBox_ctr, setBox_box, entry_slot, entry_room, entry_box, entry_ctr, endQ, endR, endV, rvars, rvar, room1, ↓reduceIte, Nat.reduceEqDiff, Nat.reduceLT, Nat.reduceLeDiff, reduceCtorEq, decide_true, decide_false, List.filterMap_cons, List.filterMap_nil, Option.bind_some, Option.map_some, Option.bind_none, Option.map_none, List.getElem?_cons_zero, List.getElem?_cons_succ, List.getD_cons_zero, List.getD_cons_succ, List.contains_cons, List.contains_nil, List.map_cons, List.map_nil, beq_self_eq_true, beq_iff_eq, Bool.or_false, Bool.false_or, Bool.or_true, Bool.true_or, Bool.and_true, Bool.true_and, Nat.reduceBEq, Bool.false_eq_true, dbin, dIntBin, okR, callG, endN, newV, row11, frz11, frzOf_def, frz_nil, frz_cons, frzD, rowList, rowElem, stepRow, madeRow, isLocal, allocKey, isAlloc, loadsOwn, ptrAt, beq_true, beq_false, Bool.not_true, Bool.not_false, pureB, leaf, leafN, List.all_cons, List.all_nil, List.nil_append, List.cons_append, List.append_nil, List.take_nil, List.range_zero, List.length_nil, List.length_cons, String.reduceBEq, Bool.true_beq, Bool.false_beq, List.find?_cons, List.find?_nil, dun, List.getElem?_nil, List.take_zero, List.drop_zero, List.take_succ_cons, List.drop_succ_cons, dcells, Nat.zero_add, Nat.reduceAdd, Nat.reduceSub, Nat.reduceMul, stepBox, Bool.and_false, Bool.false_and, and_true, true_and, List.zipWith, Option.getD_some, List.singleton_append, List.map_map, Int.natCast_nonneg, Int.toNat_natCast, and_self, Nat.mul_one, Nat.add_zero, if_true, St.freeze, false_or, or_true, true_or, or_false, szOk_cons, szOk_nil, List.cons.injEq, false_and, and_false, forall_const, List.getElem?_toArray, List.getElem_toArray, dopt, dbound, ge_iff_le, gt_iff_lt, dStrBin, List.take_length, plainR_s, Int.reduceLE, Int.reduceLT, Int.reduceToNat, Int.reduceBEq, Int.reduceBNe, ty3, dp3, ty4, dp4, ty9, dp9, ty5, dp5, ty74, dp74, ty26, dp26, fa26_0, fp26_0, fa26_1, fp26_1, fa26_2, fp26_2, fa26_3, fp26_3, fa26_4, fp26_4, fa26_5, fp26_5, fa26_6, fp26_6, ty54, dp54, fa54_0, fp54_0, fa54_1, fp54_1, fa54_2, fp54_2, zr26, zr54, ty22, dp22, ia22, len22, sl22, ty23, dp23, ia23, len23, sl23, ty24, dp24, ia24, len24, sl24, ty39, dp39, ia39, len39, sl39, ty81, dp81, ia81, len81, sl81, len9, eq54, cv981, frz11b, frz11c]
    | (refine drW_intro (by kernel_rfl) ?_)
    | (refine gw_intro (fun h => ?_) (fun h => ?_) <;> (try simp only [beq_true, beq_false, Bool.not_eq_eq_eq_not, Bool.not_true, Bool.not_false, Bool.not_not, decide_eq_true_eq, decide_eq_false_iff_not, ge_iff_le, gt_iff_lt] at h)))
end Go.Av
