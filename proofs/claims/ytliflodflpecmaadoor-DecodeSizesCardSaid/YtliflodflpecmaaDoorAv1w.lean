/- Chapter 1's door: utf8.word: eight bytes as one number. -/
import Derived.Test.YtliflodflpecmaaDoorAv1y
import Derived.Test.YtliflodflpecmaaDoorPlX
set_option linter.unusedVariables false
set_option linter.unusedSimpArgs false
namespace Go.Av
open Go.Proofs Go.Proofs.YtliflodflpecmaaDoor
theorem wrap_u64 (n : Int) (h1 : 0 ≤ n) (h2 : n < 18446744073709551616) : IntKind.u64.wrap n = n := by
  simp [IntKind.wrap, IntKind.signed, IntKind.bits]
  omega
theorem map_getD (rs : List Int) (i : Nat) (h : i < rs.length) : (rs.map (D.int .u8)).getD i .bad = .int .u8 (rs.getD i 0) := by
  simp [List.getD, List.getElem?_eq_getElem h]
theorem byte_nat {rs : List Int} (hz : BytesOK rs) (h : 8 ≤ rs.length) (i : Nat) (hi : i < 8) : ∃ x : Nat, rs.getD i 0 = x ∧ x < 256 ∧ (rs.map (D.int .u8)).getD i .bad = .int .u8 (x : Nat) := by
  have h1 := hz i (by omega)
  refine ⟨(rs.getD i 0).toNat, by omega, by omega, ?_⟩
  rw [map_getD rs i (by omega)]
  congr 1
  omega
set_option maxHeartbeats 2000000 in
theorem word_L (rs : List Int) (hz : BytesOK rs) (h : 8 ≤ rs.length) : callL Tryd.prog noExt 29 [.list (rs.map (D.int .u8))] [] = some (.int .u64 (wordL rs : Nat), [.no], []) := by
  obtain ⟨x0, e0, h0, g0⟩ := byte_nat hz h 0 (by omega)
  obtain ⟨x1, e1, h1, g1⟩ := byte_nat hz h 1 (by omega)
  obtain ⟨x2, e2, h2, g2⟩ := byte_nat hz h 2 (by omega)
  obtain ⟨x3, e3, h3, g3⟩ := byte_nat hz h 3 (by omega)
  obtain ⟨x4, e4, h4, g4⟩ := byte_nat hz h 4 (by omega)
  obtain ⟨x5, e5, h5, g5⟩ := byte_nat hz h 5 (by omega)
  obtain ⟨x6, e6, h6, g6⟩ := byte_nat hz h 6 (by omega)
  obtain ⟨x7, e7, h7, g7⟩ := byte_nat hz h 7 (by omega)
  have hW : wordL rs = wordN x0 x1 x2 x3 x4 x5 x6 x7 := by unfold wordL; rw [e0, e1, e2, e3, e4, e5, e6, e7]; rfl
  have HW := word_bits h0 h1 h2 h3 h4 h5 h6 h7
  rw [hW]
  have hl : ((rs.map (D.int .u8)).length : Int) = rs.length := by simp
  have l0 : (0 : Int) < rs.length := by omega
  have l1 : (1 : Int) < rs.length := by omega
  have l2 : (2 : Int) < rs.length := by omega
  have l3 : (3 : Int) < rs.length := by omega
  have l4 : (4 : Int) < rs.length := by omega
  have l5 : (5 : Int) < rs.length := by omega
  have l6 : (6 : Int) < rs.length := by omega
  have l7 : (7 : Int) < rs.length := by omega
  have w0 : IntKind.u64.wrap (x0 : Int) = x0 := wrap_u64 _ (by omega) (by omega)
  have w1 : IntKind.u64.wrap (x1 : Int) = x1 := wrap_u64 _ (by omega) (by omega)
  have w2 : IntKind.u64.wrap (x2 : Int) = x2 := wrap_u64 _ (by omega) (by omega)
  have w3 : IntKind.u64.wrap (x3 : Int) = x3 := wrap_u64 _ (by omega) (by omega)
  have w4 : IntKind.u64.wrap (x4 : Int) = x4 := wrap_u64 _ (by omega) (by omega)
  have w5 : IntKind.u64.wrap (x5 : Int) = x5 := wrap_u64 _ (by omega) (by omega)
  have w6 : IntKind.u64.wrap (x6 : Int) = x6 := wrap_u64 _ (by omega) (by omega)
  have w7 : IntKind.u64.wrap (x7 : Int) = x7 := wrap_u64 _ (by omega) (by omega)
  have v1 : IntKind.u64.wrap ((x1 : Int) * 256) = (x1 : Int) * 256 := wrap_u64 _ (by omega) (by omega)
  have v2 : IntKind.u64.wrap ((x2 : Int) * 65536) = (x2 : Int) * 65536 := wrap_u64 _ (by omega) (by omega)
  have v3 : IntKind.u64.wrap ((x3 : Int) * 16777216) = (x3 : Int) * 16777216 := wrap_u64 _ (by omega) (by omega)
  have v4 : IntKind.u64.wrap ((x4 : Int) * 4294967296) = (x4 : Int) * 4294967296 := wrap_u64 _ (by omega) (by omega)
  have v5 : IntKind.u64.wrap ((x5 : Int) * 1099511627776) = (x5 : Int) * 1099511627776 := wrap_u64 _ (by omega) (by omega)
  have v6 : IntKind.u64.wrap ((x6 : Int) * 281474976710656) = (x6 : Int) * 281474976710656 := wrap_u64 _ (by omega) (by omega)
  have v7 : IntKind.u64.wrap ((x7 : Int) * 72057594037927936) = (x7 : Int) * 72057594037927936 := wrap_u64 _ (by omega) (by omega)
  clear e0 e1 e2 e3 e4 e5 e6 e7 h0 h1 h2 h3 h4 h5 h6 h7 hW h hz
  refine callK (m := 71) (res := [2]) (rs := [.tmp 2]) rfl Tryd.func29 rfl rfl rfl rfl rfl ?_
  repeat' (first
    | simp only [*, go_nil, go_seq, go_cond, go_block, go_blk, go_skip, go_exit, go_retc, go_xcode, go_xblk, go_loop, go_region, go_draw, go_ops_nil, go_dops_nil, go_ops, go_dops1, go_dops, okG_some, okB_some, gwD_bool, gwD_undef, cwD_bool, gw_true, gw_false, guardG_none, guardG, opG, opD, isPtr, isStore, inB, sval, stake, eats, eaters, get, cval, cval1, croom, St.taken, put_slot, put_room, put_box, put_ctr, put_none, dem_none, dem_slot, dem_box, dem_ctr, dem_room, dem_room1, setBox_slot, setBox_room, setBox_ctr, setBox_box, entry_slot, entry_room, entry_box, entry_ctr, endQ, endR, endV, rvars, rvar, room1, ↓reduceIte, Nat.reduceEqDiff, Nat.reduceLT, Nat.reduceLeDiff, reduceCtorEq, decide_true, decide_false, List.filterMap_cons, List.filterMap_nil, Option.bind_some, Option.map_some, Option.bind_none, Option.map_none, List.getElem?_cons_zero, List.getElem?_cons_succ, List.getD_cons_zero, List.getD_cons_succ, List.contains_cons, List.contains_nil, List.map_cons, List.map_nil, beq_self_eq_true, beq_iff_eq, Bool.or_false, Bool.false_or, Bool.or_true, Bool.true_or, Bool.and_true, Bool.true_and, Nat.reduceBEq, Bool.false_eq_true, dbin, okR, callG, endN, newV, row1, frz1, frz_nil, frz_cons, frzD, rowList, rowElem, stepRow, madeRow, isLocal, allocKey, isAlloc, loadsOwn, ptrAt, beq_true, beq_false, Bool.not_true, Bool.not_false, pureB, leaf, leafN, List.all_cons, List.all_nil, List.nil_append, List.cons_append, List.append_nil, List.take_nil, List.range_zero, List.length_nil, List.length_cons, String.reduceBEq, Bool.true_beq, Bool.false_beq, List.find?_cons, List.find?_nil, dun, List.getElem?_nil, List.take_zero, List.drop_zero, List.take_succ_cons, List.drop_succ_cons, dcells, Nat.zero_add, Nat.reduceAdd, Nat.reduceSub, Nat.reduceMul, stepBox, Bool.and_false, Bool.false_and, and_true, true_and, List.zipWith, Option.getD_some, List.singleton_append, List.map_map, Int.natCast_nonneg, Int.toNat_natCast, and_self, Nat.mul_one, Nat.add_zero, if_true, St.freeze, false_or, or_true, true_or, or_false, szOk_cons, szOk_nil, List.cons.injEq, false_and, and_false, forall_const, List.getElem?_toArray, List.getElem_toArray, dopt, dbound, ge_iff_le, gt_iff_lt, dStrBin, List.take_length, plainR_s, Int.reduceLE, Int.reduceLT, Int.reduceToNat, Int.reduceBEq, Int.reduceBNe, ty3, ty4, ty5, ty22, ty52, ty54, ty55, fap0, fap1, dp3, dp4, dp5, dp54, ia22, ia52, ia55, len22, sl22, sl22m, cv53, cv512, cv576, cv7612, zr54, szU8, takeM, and_w, or_w, and_8, ib_add, ib_sub, ib_eql, ib_neq, ib_lss, ib_leq, ib_gtr, ib_geq, shl8, shl16, shl24, shl32, shl40, shl48, shl56, gl0, gl1]
    | (refine drW_intro (by kernel_rfl) ?_)
    | (refine gw_intro (fun h => ?_) (fun h => ?_) <;> (try simp only [beq_true, beq_false, Bool.not_eq_eq_eq_not, Bool.not_true, Bool.not_false, Bool.not_not, decide_eq_true_eq, decide_eq_false_iff_not, ge_iff_le, gt_iff_lt] at h)))
end Go.Av
