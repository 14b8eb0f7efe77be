/- The evaluator, in one text: over any program; no conditions but those that each law names. -/
import Derived.Test.YtjoogeabdjdleaaAvsa
import Derived.Deep.RegionLaw
import Derived.Maps.AppendAt
import Derived.Deep.RegionWith
import Derived.Test.YtjoogeabdjdleaaRows
import Derived.Test.YtjoogeabdjdleaaAvb
set_option linter.unusedSimpArgs false
set_option linter.unusedVariables false
set_option linter.unusedSectionVars false
set_option maxRecDepth 100000
namespace Go.Av
open Go.Proofs
variable {ext : Call}
theorem drop_at {α : Type} {xs : List α} {i : Nat} {x : α} (hx : xs[i]? = some x) : xs.drop i = x :: xs.drop (i + 1) := by
  have h1 : i < xs.length := (List.getElem?_eq_some_iff.1 hx).1
  have e1 : xs[i] = x := (List.getElem?_eq_some_iff.1 hx).2
  rw [List.drop_eq_getElem_cons h1, e1]
theorem self_getD {l : List D} {i : Nat} {x : D} (h : l[i]? = some x) : l.getD i .bad = x := by simp [List.getD, h]
structure CntH (prog : Prop → Prop) (C : List D → Int) (call : List D → Prop) (s : D) : Prop where
  d : s = .agg [.int .i64 (sf s).kd, .int .i64 (sf s).ns, .str (sf s).pre, .str (sf s).nm, .int .i64 (sf s).op, .str (sf s).tx, .bool (sf s).fold, .int .i64 (sf s).mark, .int .i64 (sf s).a, .int .i64 (sf s).b, .list (sf s).of_]
  c : call (sf s).of_
  lo : 0 ≤ C (sf s).of_
  hi : C (sf s).of_ ≤ 1125899906842624
set_option maxHeartbeats 16000000 in
theorem count_step (hx0 : ∀ args, ext 12 args [] = none) (C : List D → Int) (most deep : Int) (hm : 0 ≤ most ∧ most ≤ 1000) (hd : 0 ≤ deep ∧ deep ≤ 1000000) (l : List D) (hl : l.length ≤ 140737488355328)
    (hL : ∀ c ∈ l, c = .agg [.list (cxL c)] ∧ (cxL c).length ≤ 140737488355328 ∧ ∀ x ∈ cxL c, x = .agg [.int .i64 (cpC x), .list (cpL x)] ∧ (cpL x).length ≤ 140737488355328 ∧ ∀ s ∈ cpL x,
      CntH id C (fun o => deep ≤ 40 → callL Try.prog ext 12 [.list o, .int .i64 most, .int .i64 (deep + 1)] [] = some (.int .i64 (C o), [.no], [])) s) :
    callL Try.prog ext 12 [.list l, .int .i64 most, .int .i64 deep] [] = some (.int .i64 ((cntC C (badS deep) most l l.length).getD (most + 1)), [.no], []) := by
  have HL := Hd.mk hL
  have HM := Hd.mk hm
  have HD := Hd.mk hd
  have HN := Hd.mk hl
  clear hL hm hd hl
  obtain ⟨R, hR⟩ : ∃ R, Hd (R = (cntC C (badS deep) most l l.length).getD (most + 1)) := ⟨_, rfl⟩
  rw [← (show R = (cntC C (badS deep) most l l.length).getD (most + 1) from hR)]
  refine callK (m := 114) (res := [6]) (rs := [.tmp 6]) (hx0 _) Try.func12 rfl rfl rfl rfl rfl ?_
  repeat' (first|simp only [*, go_nil, go_seq, go_cond, go_block, go_blk, go_skip, go_exit, go_retc, go_xcode, go_xblk, go_loop, go_region, go_draw, go_ops_nil, go_dops_nil, go_ops, go_dops, okG_some, okB_some, gwD_bool, gwD_undef, cwD_bool, gw_true, gw_false, guardG_none, guardG, opG, opD, isPtr, inB, sval, stake, eats, eaters, get, cval, cval1, croom, St.taken, put_slot, put_room, put_box, put_ctr, put_none, dem_none, dem_slot, dem_box, dem_ctr, dem_room, dem_room1, setBox_slot, setBox_room, setBox_ctr, setBox_box, entry_slot, entry_room, entry_box, entry_ctr, endQ, endR, endV, rvars, rvar, room1, ↓reduceIte, Nat.reduceEqDiff, Nat.reduceLT, Nat.reduceLeDiff, reduceCtorEq, decide_true, decide_false, List.filterMap_cons, List.filterMap_nil, Option.bind_some, Option.map_some, Option.bind_none, Option.map_none, List.getElem?_cons_zero, List.getElem?_cons_succ, List.getD_cons_zero, List.getD_cons_succ, List.contains_cons, List.contains_nil, List.map_cons, List.map_nil, beq_self_eq_true, beq_iff_eq, Bool.or_false, Bool.false_or, Bool.or_true, Bool.true_or, Bool.and_true, Bool.true_and, Nat.reduceBEq, Bool.false_eq_true, dbin, dIntBin, okR, callG, endN, newV, rowS, frzS, frzOf_def, frz_nil, frz_cons, frzD, rowList, rowElem, stepRow, madeRow, isLocal, isAlloc, loadsOwn, ptrAt, beq_true, beq_false, Bool.not_true, Bool.not_false, pureB, leaf, leafN, List.all_cons, List.all_nil, List.nil_append, List.cons_append, List.append_nil, List.take_nil, List.range_zero, List.length_nil, List.length_cons, String.reduceBEq, Bool.true_beq, Bool.false_beq, List.find?_cons, List.find?_nil, dun, List.getElem?_nil, List.take_zero, List.drop_zero, List.take_succ_cons, List.drop_succ_cons, dcells, Nat.zero_add, Nat.reduceAdd, Nat.reduceSub, Nat.reduceMul, stepBox, Bool.and_false, Bool.false_and, and_true, true_and, List.zipWith, Option.getD_some, List.singleton_append, List.map_map, Int.natCast_nonneg, Int.toNat_natCast, and_self, Nat.mul_one, Nat.add_zero, if_true, St.freeze, false_or, or_true, true_or, or_false, szOk_cons, szOk_nil, List.cons.injEq, false_and, and_false, forall_const, List.getElem?_toArray, List.getElem_toArray, dopt, dbound, ge_iff_le, gt_iff_lt, dStrBin, List.take_length, plainR_s, Int.reduceLE, Int.reduceLT, Int.reduceToNat, Int.reduceBEq, Int.reduceBNe, isBar, optIn, allocKeys, takes, ptrArgs, callArgs, ptrIn_nil, ptrIn_int, ptrIn_bool, ptrIn_str, ptrIn_agg, ptrIn_list, ptrIn_fix, ptrIn_con, ptrIn_ptr, ptrIn1, ren, ren1, argOk, argOk1, given, oroom, clearR, vroom, nilR, Option.isSome_none, Option.isSome_some, stepTake, stepPtr, notAgg, ite_self, ty3, dp3, ty4, dp4, ty9, dp9, len9, ty33, dp33, fa33_0, fp33_0, fa33_1, fp33_1, fa33_2, fp33_2, ty35, dp35, fa35_0, fp35_0, fa35_1, fp35_1, ty37, dp37, fa37_0, fp37_0, fa37_1, fp37_1, fa37_2, fp37_2, fa37_3, fp37_3, fa37_4, fp37_4, fa37_5, fp37_5, fa37_6, fp37_6, fa37_7, fp37_7, ty46, dp46, fa46_0, fp46_0, fa46_1, fp46_1, ty30, dp30, fa30_0, fp30_0, ty39, dp39, fa39_0, fp39_0, fa39_1, fp39_1, fa39_2, fp39_2, dp33_4_11, dp35_8_11, ty44, dp44, ia44, len44, ty28, dp28, ia28, len28, ty22, dp22, ia22, len22, frzOps_nil, noEatS, putR3, zr37, zr46, zr30, zrm37, zrm46, zrm30, eq33, eq35, ptrIn_fn0, ptrIn_fn1, Option.some.injEq, List.drop_nil, lenOk_small]|refine drW_intro (by kernel_rfl) ?_|refine gw_intro (fun h => ?_) (fun h => ?_) <;> try simp only [beq_true, beq_false, Bool.not_eq_eq_eq_not, Bool.not_true, Bool.not_false, Bool.not_not, decide_eq_true_eq, decide_eq_false_iff_not, ge_iff_le, gt_iff_lt] at h)
  refine loopH (fun st => ∃ (i : Nat) (n : Int), i ≤ l.length ∧ st.slot 8 = .int .i64 i ∧ st.slot 0 = .list l ∧ st.slot 1 = .int .i64 most ∧ st.slot 2 = .int .i64 deep ∧ st.slot 7 = .int .i64 n ∧ st.room 7 = [] ∧ Hd (0 ≤ n ∧ n ≤ 1125899906852624) ∧ Hd (R = (cntC C (badS deep) most (l.drop i) n).getD (most + 1))) (fun st => l.length - slotI st 8) ?_ ?_
  · have hl : l.length ≤ 140737488355328 := HN
    refine ⟨0, (l.length : Int), Nat.zero_le _, ?_, ?_, ?_, ?_, ?_, ?_, Hd.mk ⟨by omega, by omega⟩, hR⟩
    all_goals exact I
  · rintro st K ⟨i, n, hi, g8, g0, g1, g2, g7, gr, hnn, hO⟩ hn hx hr
    have hl : l.length ≤ 140737488355328 := HN
    have hO' : R = (cntC C (badS deep) most (l.drop i) n).getD (most + 1) := hO
    by_cases h : i < l.length
    · have g9 : (i : Int) < l.length := by omega
      have hw := wrapS i (by omega)
      obtain ⟨c, hc1⟩ := some_at h
      rw [drop_at hc1, cntC] at hO'
      by_cases h2 : n ≤ most
      · rw [if_pos h2] at hO'
        obtain ⟨e1, hx1, hX⟩ := (show ∀ c ∈ l, _ from HL) c (List.mem_of_getElem? hc1)
        have ha := (self_getD hc1).trans e1
        generalize cxL c = X at *
        obtain ⟨m1, m2⟩ := (show 0 ≤ most ∧ most ≤ 1000 from HM)
        obtain ⟨n1, n2⟩ := (show 0 ≤ n ∧ n ≤ 1125899906852624 from hnn)
        obtain ⟨n0, hn0⟩ : ∃ n0 : Int, n + (X.length : Int) = n0 := ⟨_, rfl⟩
        have hw2 : IntKind.i64.wrap (n + (X.length : Int)) = n0 := by rw [hn0]; exact wrap64 _ (by omega) (by omega)
        rw [hn0] at hO'
        have HI := Hd.mk h
        have HX := Hd.mk hX
        have HO := Hd.mk hO'
        have HX1 := Hd.mk hx1
        have HB : Hd (0 ≤ n0 ∧ n0 ≤ 1125899906852624) := Hd.mk ⟨by omega, by omega⟩
        clear hn0 hl hO hO' hx hX hc1 e1 hx1 h m1 m2 n1 n2 hnn hR
        repeat' (first|simp only [*, go_nil, go_seq, go_cond, go_block, go_blk, go_skip, go_exit, go_retc, go_xcode, go_xblk, go_loop, go_region, go_draw, go_ops_nil, go_dops_nil, go_ops, go_dops, okG_some, okB_some, gwD_bool, gwD_undef, cwD_bool, gw_true, gw_false, guardG_none, guardG, opG, opD, isPtr, inB, sval, stake, eats, eaters, get, cval, cval1, croom, St.taken, put_slot, put_room, put_box, put_ctr, put_none, dem_none, dem_slot, dem_box, dem_ctr, dem_room, dem_room1, setBox_slot, setBox_room, setBox_ctr, setBox_box, entry_slot, entry_room, entry_box, entry_ctr, endQ, endR, endV, rvars, rvar, room1, ↓reduceIte, Nat.reduceEqDiff, Nat.reduceLT, Nat.reduceLeDiff, reduceCtorEq, decide_true, decide_false, List.filterMap_cons, List.filterMap_nil, Option.bind_some, Option.map_some, Option.bind_none, Option.map_none, List.getElem?_cons_zero, List.getElem?_cons_succ, List.getD_cons_zero, List.getD_cons_succ, List.contains_cons, List.contains_nil, List.map_cons, List.map_nil, beq_self_eq_true, beq_iff_eq, Bool.or_false, Bool.false_or, Bool.or_true, Bool.true_or, Bool.and_true, Bool.true_and, Nat.reduceBEq, Bool.false_eq_true, dbin, dIntBin, okR, callG, endN, newV, rowS, frzS, frzOf_def, frz_nil, frz_cons, frzD, rowList, rowElem, stepRow, madeRow, isLocal, isAlloc, loadsOwn, ptrAt, beq_true, beq_false, Bool.not_true, Bool.not_false, pureB, leaf, leafN, List.all_cons, List.all_nil, List.nil_append, List.cons_append, List.append_nil, List.take_nil, List.range_zero, List.length_nil, List.length_cons, String.reduceBEq, Bool.true_beq, Bool.false_beq, List.find?_cons, List.find?_nil, dun, List.getElem?_nil, List.take_zero, List.drop_zero, List.take_succ_cons, List.drop_succ_cons, dcells, Nat.zero_add, Nat.reduceAdd, Nat.reduceSub, Nat.reduceMul, stepBox, Bool.and_false, Bool.false_and, and_true, true_and, List.zipWith, Option.getD_some, List.singleton_append, List.map_map, Int.natCast_nonneg, Int.toNat_natCast, and_self, Nat.mul_one, Nat.add_zero, if_true, St.freeze, false_or, or_true, true_or, or_false, szOk_cons, szOk_nil, List.cons.injEq, false_and, and_false, forall_const, List.getElem?_toArray, List.getElem_toArray, dopt, dbound, ge_iff_le, gt_iff_lt, dStrBin, List.take_length, plainR_s, Int.reduceLE, Int.reduceLT, Int.reduceToNat, Int.reduceBEq, Int.reduceBNe, isBar, optIn, allocKeys, takes, ptrArgs, callArgs, ptrIn_nil, ptrIn_int, ptrIn_bool, ptrIn_str, ptrIn_agg, ptrIn_list, ptrIn_fix, ptrIn_con, ptrIn_ptr, ptrIn1, ren, ren1, argOk, argOk1, given, oroom, clearR, vroom, nilR, Option.isSome_none, Option.isSome_some, stepTake, stepPtr, notAgg, ite_self, ty3, dp3, ty4, dp4, ty9, dp9, len9, ty33, dp33, fa33_0, fp33_0, fa33_1, fp33_1, fa33_2, fp33_2, ty35, dp35, fa35_0, fp35_0, fa35_1, fp35_1, ty37, dp37, fa37_0, fp37_0, fa37_1, fp37_1, fa37_2, fp37_2, fa37_3, fp37_3, fa37_4, fp37_4, fa37_5, fp37_5, fa37_6, fp37_6, fa37_7, fp37_7, ty46, dp46, fa46_0, fp46_0, fa46_1, fp46_1, ty30, dp30, fa30_0, fp30_0, ty39, dp39, fa39_0, fp39_0, fa39_1, fp39_1, fa39_2, fp39_2, dp33_4_11, dp35_8_11, ty44, dp44, ia44, len44, ty28, dp28, ia28, len28, ty22, dp22, ia22, len22, frzOps_nil, noEatS, putR3, zr37, zr46, zr30, zrm37, zrm46, zrm30, eq33, eq35, ptrIn_fn0, ptrIn_fn1, Option.some.injEq, List.drop_nil, lenOk_small]|refine drW_intro (by kernel_rfl) ?_|refine gw_intro (fun h => ?_) (fun h => ?_) <;> try simp only [beq_true, beq_false, Bool.not_eq_eq_eq_not, Bool.not_true, Bool.not_false, Bool.not_not, decide_eq_true_eq, decide_eq_false_iff_not, ge_iff_le, gt_iff_lt] at h)
        clear h2
        refine loopH (fun st' => ∃ (k : Nat) (n : Int), k ≤ X.length ∧ st'.slot 9 = .int .i64 k ∧ st'.slot 8 = .int .i64 i ∧ st'.slot 0 = .list l ∧ st'.slot 1 = .int .i64 most ∧ st'.slot 2 = .int .i64 deep ∧ st'.slot 7 = .int .i64 n ∧ st'.room 7 = [] ∧ Hd (0 ≤ n ∧ n ≤ 1125899906852624) ∧ Hd (R = ((cntP C (badS deep) most (X.drop k) n).bind (cntC C (badS deep) most (l.drop (i + 1)))).getD (most + 1))) (fun st' => X.length - slotI st' 9) ?_ ?_
        · refine ⟨0, n0, Nat.zero_le _, ?_, ?_, ?_, ?_, ?_, ?_, ?_, HB, HO⟩
          all_goals exact I
        · rintro st' K' ⟨k, n, hk, e9, e8, e0, e1, e2, e7, er, hnn, hO⟩ hn2 hx2 hr2
          have G8 := Hd.mk g8
          clear g0 g1 g2 g7 g8 gr HO hw2
          have hxl : X.length ≤ 140737488355328 := HX1
          have hO' : R = ((cntP C (badS deep) most (X.drop k) n).bind (cntC C (badS deep) most (l.drop (i + 1)))).getD (most + 1) := hO
          by_cases h : k < X.length
          · have g10 : (k : Int) < X.length := by omega
            have hw3 := wrapS k (by omega)
            obtain ⟨x, hx1⟩ := some_at h
            rw [drop_at hx1, cntP] at hO'
            by_cases h2 : n ≤ most
            · rw [if_pos h2] at hO'
              obtain ⟨f1, f2, hS⟩ := (show ∀ x ∈ X, _ from HX) x (List.mem_of_getElem? hx1)
              have hb := (self_getD hx1).trans f1
              generalize cpL x = Y at *
              generalize cpC x = cc at *
              have HK := Hd.mk h
              have HS := Hd.mk hS
              have HO := Hd.mk hO'
              have HY1 := Hd.mk f2
              have HN0 := hnn
              clear hO hO' hx2 hS hx1 f1 f2 h hxl hnn hn
              repeat' (first|simp only [*, go_nil, go_seq, go_cond, go_block, go_blk, go_skip, go_exit, go_retc, go_xcode, go_xblk, go_loop, go_region, go_draw, go_ops_nil, go_dops_nil, go_ops, go_dops, okG_some, okB_some, gwD_bool, gwD_undef, cwD_bool, gw_true, gw_false, guardG_none, guardG, opG, opD, isPtr, inB, sval, stake, eats, eaters, get, cval, cval1, croom, St.taken, put_slot, put_room, put_box, put_ctr, put_none, dem_none, dem_slot, dem_box, dem_ctr, dem_room, dem_room1, setBox_slot, setBox_room, setBox_ctr, setBox_box, entry_slot, entry_room, entry_box, entry_ctr, endQ, endR, endV, rvars, rvar, room1, ↓reduceIte, Nat.reduceEqDiff, Nat.reduceLT, Nat.reduceLeDiff, reduceCtorEq, decide_true, decide_false, List.filterMap_cons, List.filterMap_nil, Option.bind_some, Option.map_some, Option.bind_none, Option.map_none, List.getElem?_cons_zero, List.getElem?_cons_succ, List.getD_cons_zero, List.getD_cons_succ, List.contains_cons, List.contains_nil, List.map_cons, List.map_nil, beq_self_eq_true, beq_iff_eq, Bool.or_false, Bool.false_or, Bool.or_true, Bool.true_or, Bool.and_true, Bool.true_and, Nat.reduceBEq, Bool.false_eq_true, dbin, dIntBin, okR, callG, endN, newV, rowS, frzS, frzOf_def, frz_nil, frz_cons, frzD, rowList, rowElem, stepRow, madeRow, isLocal, isAlloc, loadsOwn, ptrAt, beq_true, beq_false, Bool.not_true, Bool.not_false, pureB, leaf, leafN, List.all_cons, List.all_nil, List.nil_append, List.cons_append, List.append_nil, List.take_nil, List.range_zero, List.length_nil, List.length_cons, String.reduceBEq, Bool.true_beq, Bool.false_beq, List.find?_cons, List.find?_nil, dun, List.getElem?_nil, List.take_zero, List.drop_zero, List.take_succ_cons, List.drop_succ_cons, dcells, Nat.zero_add, Nat.reduceAdd, Nat.reduceSub, Nat.reduceMul, stepBox, Bool.and_false, Bool.false_and, and_true, true_and, List.zipWith, Option.getD_some, List.singleton_append, List.map_map, Int.natCast_nonneg, Int.toNat_natCast, and_self, Nat.mul_one, Nat.add_zero, if_true, St.freeze, false_or, or_true, true_or, or_false, szOk_cons, szOk_nil, List.cons.injEq, false_and, and_false, forall_const, List.getElem?_toArray, List.getElem_toArray, dopt, dbound, ge_iff_le, gt_iff_lt, dStrBin, List.take_length, plainR_s, Int.reduceLE, Int.reduceLT, Int.reduceToNat, Int.reduceBEq, Int.reduceBNe, isBar, optIn, allocKeys, takes, ptrArgs, callArgs, ptrIn_nil, ptrIn_int, ptrIn_bool, ptrIn_str, ptrIn_agg, ptrIn_list, ptrIn_fix, ptrIn_con, ptrIn_ptr, ptrIn1, ren, ren1, argOk, argOk1, given, oroom, clearR, vroom, nilR, Option.isSome_none, Option.isSome_some, stepTake, stepPtr, notAgg, ite_self, ty3, dp3, ty4, dp4, ty9, dp9, len9, ty33, dp33, fa33_0, fp33_0, fa33_1, fp33_1, fa33_2, fp33_2, ty35, dp35, fa35_0, fp35_0, fa35_1, fp35_1, ty37, dp37, fa37_0, fp37_0, fa37_1, fp37_1, fa37_2, fp37_2, fa37_3, fp37_3, fa37_4, fp37_4, fa37_5, fp37_5, fa37_6, fp37_6, fa37_7, fp37_7, ty46, dp46, fa46_0, fp46_0, fa46_1, fp46_1, ty30, dp30, fa30_0, fp30_0, ty39, dp39, fa39_0, fp39_0, fa39_1, fp39_1, fa39_2, fp39_2, dp33_4_11, dp35_8_11, ty44, dp44, ia44, len44, ty28, dp28, ia28, len28, ty22, dp22, ia22, len22, frzOps_nil, noEatS, putR3, zr37, zr46, zr30, zrm37, zrm46, zrm30, eq33, eq35, ptrIn_fn0, ptrIn_fn1, Option.some.injEq, List.drop_nil, lenOk_small]|refine drW_intro (by kernel_rfl) ?_|refine gw_intro (fun h => ?_) (fun h => ?_) <;> try simp only [beq_true, beq_false, Bool.not_eq_eq_eq_not, Bool.not_true, Bool.not_false, Bool.not_not, decide_eq_true_eq, decide_eq_false_iff_not, ge_iff_le, gt_iff_lt] at h)
              clear h2
              refine loopH (fun st2 => ∃ (m : Nat) (n : Int), m ≤ Y.length ∧ st2.slot 11 = .int .i64 m ∧ st2.slot 10 = .list Y ∧ st2.slot 9 = .int .i64 k ∧ st2.slot 8 = .int .i64 i ∧ st2.slot 0 = .list l ∧ st2.slot 1 = .int .i64 most ∧ st2.slot 2 = .int .i64 deep ∧ st2.slot 7 = .int .i64 n ∧ st2.room 7 = [] ∧ Hd (0 ≤ n ∧ n ≤ 1125899906852624) ∧ Hd (R = (((cntX C (badS deep) most (Y.drop m) n).bind (cntP C (badS deep) most (X.drop (k + 1)))).bind (cntC C (badS deep) most (l.drop (i + 1)))).getD (most + 1))) (fun st2 => Y.length - slotI st2 11) ?_ ?_
              · refine ⟨0, n, Nat.zero_le _, ?_, ?_, ?_, ?_, ?_, ?_, ?_, ?_, ?_, HN0, HO⟩
                all_goals exact I
              · rintro st2 K2 ⟨m, n, hmm, u11, u10, u9, u8, u0, u1, u2, u7, ur, hnn, hO⟩ hn3 hx3 hr3
                have E9 := Hd.mk e9
                clear e0 e1 e2 e7 e8 e9 er HO HN0
                have hyl : Y.length ≤ 140737488355328 := HY1
                have hO' : R = (((cntX C (badS deep) most (Y.drop m) n).bind (cntP C (badS deep) most (X.drop (k + 1)))).bind (cntC C (badS deep) most (l.drop (i + 1)))).getD (most + 1) := hO
                by_cases h : m < Y.length
                · have g11 : (m : Int) < Y.length := by omega
                  have hw4 := wrapS m (by omega)
                  obtain ⟨s, hs1⟩ := some_at h
                  rw [drop_at hs1, cntX] at hO'
                  by_cases h2 : n ≤ most
                  · rw [if_pos h2] at hO'
                    obtain ⟨q1, q2, q3, q4⟩ := (show ∀ s ∈ Y, _ from HS) s (List.mem_of_getElem? hs1)
                    have hz := (self_getD hs1).trans q1
                    have hbad : badS deep s = (decide (100 < ((sf s).nm.length : Int)) || (decide (100 < ((sf s).pre.length : Int)) || (decide (100 < ((sf s).tx.length : Int)) || decide (40 < deep)))) := rfl
                    rw [hbad] at hO'
                    clear hbad
                    generalize sf s = S at *
                    obtain ⟨m1, m2⟩ := (show 0 ≤ most ∧ most ≤ 1000 from HM)
                    obtain ⟨d1, d2⟩ := (show 0 ≤ deep ∧ deep ≤ 1000000 from HD)
                    obtain ⟨n1, n2⟩ := (show 0 ≤ n ∧ n ≤ 1125899906852624 from hnn)
                    have hw5 : IntKind.i64.wrap (n + 1) = n + 1 := wrap64 _ (by omega) (by omega)
                    have hw6 : IntKind.i64.wrap (most + 1) = most + 1 := wrap64 _ (by omega) (by omega)
                    have hw7 : IntKind.i64.wrap (deep + 1) = deep + 1 := wrap64 _ (by omega) (by omega)
                    have HM0 := Hd.mk h
                    clear hO hx3 hs1 q1 h hyl hnn
                    by_cases c1 : (100 : Int) < (S.nm.length : Int)
                    · rw [decide_eq_true c1, Bool.true_or, if_pos rfl] at hO'
                      have hO2 : R = most + 1 := hO'
                      subst hO2
                      clear hn3 hn2 hO' m1 m2 d1 d2 n1 n2 q2 q3 q4
                      repeat' (first|simp only [*, go_nil, go_seq, go_cond, go_block, go_blk, go_skip, go_exit, go_retc, go_xcode, go_xblk, go_loop, go_region, go_draw, go_ops_nil, go_dops_nil, go_ops, go_dops, okG_some, okB_some, gwD_bool, gwD_undef, cwD_bool, gw_true, gw_false, guardG_none, guardG, opG, opD, isPtr, inB, sval, stake, eats, eaters, get, cval, cval1, croom, St.taken, put_slot, put_room, put_box, put_ctr, put_none, dem_none, dem_slot, dem_box, dem_ctr, dem_room, dem_room1, setBox_slot, setBox_room, setBox_ctr, setBox_box, entry_slot, entry_room, entry_box, entry_ctr, endQ, endR, endV, rvars, rvar, room1, ↓reduceIte, Nat.reduceEqDiff, Nat.reduceLT, Nat.reduceLeDiff, reduceCtorEq, decide_true, decide_false, List.filterMap_cons, List.filterMap_nil, Option.bind_some, Option.map_some, Option.bind_none, Option.map_none, List.getElem?_cons_zero, List.getElem?_cons_succ, List.getD_cons_zero, List.getD_cons_succ, List.contains_cons, List.contains_nil, List.map_cons, List.map_nil, beq_self_eq_true, beq_iff_eq, Bool.or_false, Bool.false_or, Bool.or_true, Bool.true_or, Bool.and_true, Bool.true_and, Nat.reduceBEq, Bool.false_eq_true, dbin, dIntBin, okR, callG, endN, newV, rowS, frzS, frzOf_def, frz_nil, frz_cons, frzD, rowList, rowElem, stepRow, madeRow, isLocal, isAlloc, loadsOwn, ptrAt, beq_true, beq_false, Bool.not_true, Bool.not_false, pureB, leaf, leafN, List.all_cons, List.all_nil, List.nil_append, List.cons_append, List.append_nil, List.take_nil, List.range_zero, List.length_nil, List.length_cons, String.reduceBEq, Bool.true_beq, Bool.false_beq, List.find?_cons, List.find?_nil, dun, List.getElem?_nil, List.take_zero, List.drop_zero, List.take_succ_cons, List.drop_succ_cons, dcells, Nat.zero_add, Nat.reduceAdd, Nat.reduceSub, Nat.reduceMul, stepBox, Bool.and_false, Bool.false_and, and_true, true_and, List.zipWith, Option.getD_some, List.singleton_append, List.map_map, Int.natCast_nonneg, Int.toNat_natCast, and_self, Nat.mul_one, Nat.add_zero, if_true, St.freeze, false_or, or_true, true_or, or_false, szOk_cons, szOk_nil, List.cons.injEq, false_and, and_false, forall_const, List.getElem?_toArray, List.getElem_toArray, dopt, dbound, ge_iff_le, gt_iff_lt, dStrBin, List.take_length, plainR_s, Int.reduceLE, Int.reduceLT, Int.reduceToNat, Int.reduceBEq, Int.reduceBNe, isBar, optIn, allocKeys, takes, ptrArgs, callArgs, ptrIn_nil, ptrIn_int, ptrIn_bool, ptrIn_str, ptrIn_agg, ptrIn_list, ptrIn_fix, ptrIn_con, ptrIn_ptr, ptrIn1, ren, ren1, argOk, argOk1, given, oroom, clearR, vroom, nilR, Option.isSome_none, Option.isSome_some, stepTake, stepPtr, notAgg, ite_self, ty3, dp3, ty4, dp4, ty9, dp9, len9, ty33, dp33, fa33_0, fp33_0, fa33_1, fp33_1, fa33_2, fp33_2, ty35, dp35, fa35_0, fp35_0, fa35_1, fp35_1, ty37, dp37, fa37_0, fp37_0, fa37_1, fp37_1, fa37_2, fp37_2, fa37_3, fp37_3, fa37_4, fp37_4, fa37_5, fp37_5, fa37_6, fp37_6, fa37_7, fp37_7, ty46, dp46, fa46_0, fp46_0, fa46_1, fp46_1, ty30, dp30, fa30_0, fp30_0, ty39, dp39, fa39_0, fp39_0, fa39_1, fp39_1, fa39_2, fp39_2, dp33_4_11, dp35_8_11, ty44, dp44, ia44, len44, ty28, dp28, ia28, len28, ty22, dp22, ia22, len22, frzOps_nil, noEatS, putR3, zr37, zr46, zr30, zrm37, zrm46, zrm30, eq33, eq35, ptrIn_fn0, ptrIn_fn1, Option.some.injEq, List.drop_nil, lenOk_small]|refine drW_intro (by kernel_rfl) ?_|refine gw_intro (fun h => ?_) (fun h => ?_) <;> try simp only [beq_true, beq_false, Bool.not_eq_eq_eq_not, Bool.not_true, Bool.not_false, Bool.not_not, decide_eq_true_eq, decide_eq_false_iff_not, ge_iff_le, gt_iff_lt] at h)
                      refine hr3 _ ?_
                      refine hr2 _ ?_
                      refine hr _ ?_
                      repeat' (first|simp only [*, go_nil, go_seq, go_cond, go_block, go_blk, go_skip, go_exit, go_retc, go_xcode, go_xblk, go_loop, go_region, go_draw, go_ops_nil, go_dops_nil, go_ops, go_dops, okG_some, okB_some, gwD_bool, gwD_undef, cwD_bool, gw_true, gw_false, guardG_none, guardG, opG, opD, isPtr, inB, sval, stake, eats, eaters, get, cval, cval1, croom, St.taken, put_slot, put_room, put_box, put_ctr, put_none, dem_none, dem_slot, dem_box, dem_ctr, dem_room, dem_room1, setBox_slot, setBox_room, setBox_ctr, setBox_box, entry_slot, entry_room, entry_box, entry_ctr, endQ, endR, endV, rvars, rvar, room1, ↓reduceIte, Nat.reduceEqDiff, Nat.reduceLT, Nat.reduceLeDiff, reduceCtorEq, decide_true, decide_false, List.filterMap_cons, List.filterMap_nil, Option.bind_some, Option.map_some, Option.bind_none, Option.map_none, List.getElem?_cons_zero, List.getElem?_cons_succ, List.getD_cons_zero, List.getD_cons_succ, List.contains_cons, List.contains_nil, List.map_cons, List.map_nil, beq_self_eq_true, beq_iff_eq, Bool.or_false, Bool.false_or, Bool.or_true, Bool.true_or, Bool.and_true, Bool.true_and, Nat.reduceBEq, Bool.false_eq_true, dbin, dIntBin, okR, callG, endN, newV, rowS, frzS, frzOf_def, frz_nil, frz_cons, frzD, rowList, rowElem, stepRow, madeRow, isLocal, isAlloc, loadsOwn, ptrAt, beq_true, beq_false, Bool.not_true, Bool.not_false, pureB, leaf, leafN, List.all_cons, List.all_nil, List.nil_append, List.cons_append, List.append_nil, List.take_nil, List.range_zero, List.length_nil, List.length_cons, String.reduceBEq, Bool.true_beq, Bool.false_beq, List.find?_cons, List.find?_nil, dun, List.getElem?_nil, List.take_zero, List.drop_zero, List.take_succ_cons, List.drop_succ_cons, dcells, Nat.zero_add, Nat.reduceAdd, Nat.reduceSub, Nat.reduceMul, stepBox, Bool.and_false, Bool.false_and, and_true, true_and, List.zipWith, Option.getD_some, List.singleton_append, List.map_map, Int.natCast_nonneg, Int.toNat_natCast, and_self, Nat.mul_one, Nat.add_zero, if_true, St.freeze, false_or, or_true, true_or, or_false, szOk_cons, szOk_nil, List.cons.injEq, false_and, and_false, forall_const, List.getElem?_toArray, List.getElem_toArray, dopt, dbound, ge_iff_le, gt_iff_lt, dStrBin, List.take_length, plainR_s, Int.reduceLE, Int.reduceLT, Int.reduceToNat, Int.reduceBEq, Int.reduceBNe, isBar, optIn, allocKeys, takes, ptrArgs, callArgs, ptrIn_nil, ptrIn_int, ptrIn_bool, ptrIn_str, ptrIn_agg, ptrIn_list, ptrIn_fix, ptrIn_con, ptrIn_ptr, ptrIn1, ren, ren1, argOk, argOk1, given, oroom, clearR, vroom, nilR, Option.isSome_none, Option.isSome_some, stepTake, stepPtr, notAgg, ite_self, ty3, dp3, ty4, dp4, ty9, dp9, len9, ty33, dp33, fa33_0, fp33_0, fa33_1, fp33_1, fa33_2, fp33_2, ty35, dp35, fa35_0, fp35_0, fa35_1, fp35_1, ty37, dp37, fa37_0, fp37_0, fa37_1, fp37_1, fa37_2, fp37_2, fa37_3, fp37_3, fa37_4, fp37_4, fa37_5, fp37_5, fa37_6, fp37_6, fa37_7, fp37_7, ty46, dp46, fa46_0, fp46_0, fa46_1, fp46_1, ty30, dp30, fa30_0, fp30_0, ty39, dp39, fa39_0, fp39_0, fa39_1, fp39_1, fa39_2, fp39_2, dp33_4_11, dp35_8_11, ty44, dp44, ia44, len44, ty28, dp28, ia28, len28, ty22, dp22, ia22, len22, frzOps_nil, noEatS, putR3, zr37, zr46, zr30, zrm37, zrm46, zrm30, eq33, eq35, ptrIn_fn0, ptrIn_fn1, Option.some.injEq, List.drop_nil, lenOk_small]|refine drW_intro (by kernel_rfl) ?_|refine gw_intro (fun h => ?_) (fun h => ?_) <;> try simp only [beq_true, beq_false, Bool.not_eq_eq_eq_not, Bool.not_true, Bool.not_false, Bool.not_not, decide_eq_true_eq, decide_eq_false_iff_not, ge_iff_le, gt_iff_lt] at h)
                    rw [decide_eq_false c1, Bool.false_or] at hO'
                    by_cases c2 : (100 : Int) < (S.pre.length : Int)
                    · rw [decide_eq_true c2, Bool.true_or, if_pos rfl] at hO'
                      have hO2 : R = most + 1 := hO'
                      subst hO2
                      clear hn3 hn2 hO' m1 m2 d1 d2 n1 n2 q2 q3 q4
                      repeat' (first|simp only [*, go_nil, go_seq, go_cond, go_block, go_blk, go_skip, go_exit, go_retc, go_xcode, go_xblk, go_loop, go_region, go_draw, go_ops_nil, go_dops_nil, go_ops, go_dops, okG_some, okB_some, gwD_bool, gwD_undef, cwD_bool, gw_true, gw_false, guardG_none, guardG, opG, opD, isPtr, inB, sval, stake, eats, eaters, get, cval, cval1, croom, St.taken, put_slot, put_room, put_box, put_ctr, put_none, dem_none, dem_slot, dem_box, dem_ctr, dem_room, dem_room1, setBox_slot, setBox_room, setBox_ctr, setBox_box, entry_slot, entry_room, entry_box, entry_ctr, endQ, endR, endV, rvars, rvar, room1, ↓reduceIte, Nat.reduceEqDiff, Nat.reduceLT, Nat.reduceLeDiff, reduceCtorEq, decide_true, decide_false, List.filterMap_cons, List.filterMap_nil, Option.bind_some, Option.map_some, Option.bind_none, Option.map_none, List.getElem?_cons_zero, List.getElem?_cons_succ, List.getD_cons_zero, List.getD_cons_succ, List.contains_cons, List.contains_nil, List.map_cons, List.map_nil, beq_self_eq_true, beq_iff_eq, Bool.or_false, Bool.false_or, Bool.or_true, Bool.true_or, Bool.and_true, Bool.true_and, Nat.reduceBEq, Bool.false_eq_true, dbin, dIntBin, okR, callG, endN, newV, rowS, frzS, frzOf_def, frz_nil, frz_cons, frzD, rowList, rowElem, stepRow, madeRow, isLocal, isAlloc, loadsOwn, ptrAt, beq_true, beq_false, Bool.not_true, Bool.not_false, pureB, leaf, leafN, List.all_cons, List.all_nil, List.nil_append, List.cons_append, List.append_nil, List.take_nil, List.range_zero, List.length_nil, List.length_cons, String.reduceBEq, Bool.true_beq, Bool.false_beq, List.find?_cons, List.find?_nil, dun, List.getElem?_nil, List.take_zero, List.drop_zero, List.take_succ_cons, List.drop_succ_cons, dcells, Nat.zero_add, Nat.reduceAdd, Nat.reduceSub, Nat.reduceMul, stepBox, Bool.and_false, Bool.false_and, and_true, true_and, List.zipWith, Option.getD_some, List.singleton_append, List.map_map, Int.natCast_nonneg, Int.toNat_natCast, and_self, Nat.mul_one, Nat.add_zero, if_true, St.freeze, false_or, or_true, true_or, or_false, szOk_cons, szOk_nil, List.cons.injEq, false_and, and_false, forall_const, List.getElem?_toArray, List.getElem_toArray, dopt, dbound, ge_iff_le, gt_iff_lt, dStrBin, List.take_length, plainR_s, Int.reduceLE, Int.reduceLT, Int.reduceToNat, Int.reduceBEq, Int.reduceBNe, isBar, optIn, allocKeys, takes, ptrArgs, callArgs, ptrIn_nil, ptrIn_int, ptrIn_bool, ptrIn_str, ptrIn_agg, ptrIn_list, ptrIn_fix, ptrIn_con, ptrIn_ptr, ptrIn1, ren, ren1, argOk, argOk1, given, oroom, clearR, vroom, nilR, Option.isSome_none, Option.isSome_some, stepTake, stepPtr, notAgg, ite_self, ty3, dp3, ty4, dp4, ty9, dp9, len9, ty33, dp33, fa33_0, fp33_0, fa33_1, fp33_1, fa33_2, fp33_2, ty35, dp35, fa35_0, fp35_0, fa35_1, fp35_1, ty37, dp37, fa37_0, fp37_0, fa37_1, fp37_1, fa37_2, fp37_2, fa37_3, fp37_3, fa37_4, fp37_4, fa37_5, fp37_5, fa37_6, fp37_6, fa37_7, fp37_7, ty46, dp46, fa46_0, fp46_0, fa46_1, fp46_1, ty30, dp30, fa30_0, fp30_0, ty39, dp39, fa39_0, fp39_0, fa39_1, fp39_1, fa39_2, fp39_2, dp33_4_11, dp35_8_11, ty44, dp44, ia44, len44, ty28, dp28, ia28, len28, ty22, dp22, ia22, len22, frzOps_nil, noEatS, putR3, zr37, zr46, zr30, zrm37, zrm46, zrm30, eq33, eq35, ptrIn_fn0, ptrIn_fn1, Option.some.injEq, List.drop_nil, lenOk_small]|refine drW_intro (by kernel_rfl) ?_|refine gw_intro (fun h => ?_) (fun h => ?_) <;> try simp only [beq_true, beq_false, Bool.not_eq_eq_eq_not, Bool.not_true, Bool.not_false, Bool.not_not, decide_eq_true_eq, decide_eq_false_iff_not, ge_iff_le, gt_iff_lt] at h)
                      refine hr3 _ ?_
                      refine hr2 _ ?_
                      refine hr _ ?_
                      repeat' (first|simp only [*, go_nil, go_seq, go_cond, go_block, go_blk, go_skip, go_exit, go_retc, go_xcode, go_xblk, go_loop, go_region, go_draw, go_ops_nil, go_dops_nil, go_ops, go_dops, okG_some, okB_some, gwD_bool, gwD_undef, cwD_bool, gw_true, gw_false, guardG_none, guardG, opG, opD, isPtr, inB, sval, stake, eats, eaters, get, cval, cval1, croom, St.taken, put_slot, put_room, put_box, put_ctr, put_none, dem_none, dem_slot, dem_box, dem_ctr, dem_room, dem_room1, setBox_slot, setBox_room, setBox_ctr, setBox_box, entry_slot, entry_room, entry_box, entry_ctr, endQ, endR, endV, rvars, rvar, room1, ↓reduceIte, Nat.reduceEqDiff, Nat.reduceLT, Nat.reduceLeDiff, reduceCtorEq, decide_true, decide_false, List.filterMap_cons, List.filterMap_nil, Option.bind_some, Option.map_some, Option.bind_none, Option.map_none, List.getElem?_cons_zero, List.getElem?_cons_succ, List.getD_cons_zero, List.getD_cons_succ, List.contains_cons, List.contains_nil, List.map_cons, List.map_nil, beq_self_eq_true, beq_iff_eq, Bool.or_false, Bool.false_or, Bool.or_true, Bool.true_or, Bool.and_true, Bool.true_and, Nat.reduceBEq, Bool.false_eq_true, dbin, dIntBin, okR, callG, endN, newV, rowS, frzS, frzOf_def, frz_nil, frz_cons, frzD, rowList, rowElem, stepRow, madeRow, isLocal, isAlloc, loadsOwn, ptrAt, beq_true, beq_false, Bool.not_true, Bool.not_false, pureB, leaf, leafN, List.all_cons, List.all_nil, List.nil_append, List.cons_append, List.append_nil, List.take_nil, List.range_zero, List.length_nil, List.length_cons, String.reduceBEq, Bool.true_beq, Bool.false_beq, List.find?_cons, List.find?_nil, dun, List.getElem?_nil, List.take_zero, List.drop_zero, List.take_succ_cons, List.drop_succ_cons, dcells, Nat.zero_add, Nat.reduceAdd, Nat.reduceSub, Nat.reduceMul, stepBox, Bool.and_false, Bool.false_and, and_true, true_and, List.zipWith, Option.getD_some, List.singleton_append, List.map_map, Int.natCast_nonneg, Int.toNat_natCast, and_self, Nat.mul_one, Nat.add_zero, if_true, St.freeze, false_or, or_true, true_or, or_false, szOk_cons, szOk_nil, List.cons.injEq, false_and, and_false, forall_const, List.getElem?_toArray, List.getElem_toArray, dopt, dbound, ge_iff_le, gt_iff_lt, dStrBin, List.take_length, plainR_s, Int.reduceLE, Int.reduceLT, Int.reduceToNat, Int.reduceBEq, Int.reduceBNe, isBar, optIn, allocKeys, takes, ptrArgs, callArgs, ptrIn_nil, ptrIn_int, ptrIn_bool, ptrIn_str, ptrIn_agg, ptrIn_list, ptrIn_fix, ptrIn_con, ptrIn_ptr, ptrIn1, ren, ren1, argOk, argOk1, given, oroom, clearR, vroom, nilR, Option.isSome_none, Option.isSome_some, stepTake, stepPtr, notAgg, ite_self, ty3, dp3, ty4, dp4, ty9, dp9, len9, ty33, dp33, fa33_0, fp33_0, fa33_1, fp33_1, fa33_2, fp33_2, ty35, dp35, fa35_0, fp35_0, fa35_1, fp35_1, ty37, dp37, fa37_0, fp37_0, fa37_1, fp37_1, fa37_2, fp37_2, fa37_3, fp37_3, fa37_4, fp37_4, fa37_5, fp37_5, fa37_6, fp37_6, fa37_7, fp37_7, ty46, dp46, fa46_0, fp46_0, fa46_1, fp46_1, ty30, dp30, fa30_0, fp30_0, ty39, dp39, fa39_0, fp39_0, fa39_1, fp39_1, fa39_2, fp39_2, dp33_4_11, dp35_8_11, ty44, dp44, ia44, len44, ty28, dp28, ia28, len28, ty22, dp22, ia22, len22, frzOps_nil, noEatS, putR3, zr37, zr46, zr30, zrm37, zrm46, zrm30, eq33, eq35, ptrIn_fn0, ptrIn_fn1, Option.some.injEq, List.drop_nil, lenOk_small]|refine drW_intro (by kernel_rfl) ?_|refine gw_intro (fun h => ?_) (fun h => ?_) <;> try simp only [beq_true, beq_false, Bool.not_eq_eq_eq_not, Bool.not_true, Bool.not_false, Bool.not_not, decide_eq_true_eq, decide_eq_false_iff_not, ge_iff_le, gt_iff_lt] at h)
                    rw [decide_eq_false c2, Bool.false_or] at hO'
                    by_cases c3 : (100 : Int) < (S.tx.length : Int)
                    · rw [decide_eq_true c3, Bool.true_or, if_pos rfl] at hO'
                      have hO2 : R = most + 1 := hO'
                      subst hO2
                      clear hn3 hn2 hO' m1 m2 d1 d2 n1 n2 q2 q3 q4
                      repeat' (first|simp only [*, go_nil, go_seq, go_cond, go_block, go_blk, go_skip, go_exit, go_retc, go_xcode, go_xblk, go_loop, go_region, go_draw, go_ops_nil, go_dops_nil, go_ops, go_dops, okG_some, okB_some, gwD_bool, gwD_undef, cwD_bool, gw_true, gw_false, guardG_none, guardG, opG, opD, isPtr, inB, sval, stake, eats, eaters, get, cval, cval1, croom, St.taken, put_slot, put_room, put_box, put_ctr, put_none, dem_none, dem_slot, dem_box, dem_ctr, dem_room, dem_room1, setBox_slot, setBox_room, setBox_ctr, setBox_box, entry_slot, entry_room, entry_box, entry_ctr, endQ, endR, endV, rvars, rvar, room1, ↓reduceIte, Nat.reduceEqDiff, Nat.reduceLT, Nat.reduceLeDiff, reduceCtorEq, decide_true, decide_false, List.filterMap_cons, List.filterMap_nil, Option.bind_some, Option.map_some, Option.bind_none, Option.map_none, List.getElem?_cons_zero, List.getElem?_cons_succ, List.getD_cons_zero, List.getD_cons_succ, List.contains_cons, List.contains_nil, List.map_cons, List.map_nil, beq_self_eq_true, beq_iff_eq, Bool.or_false, Bool.false_or, Bool.or_true, Bool.true_or, Bool.and_true, Bool.true_and, Nat.reduceBEq, Bool.false_eq_true, dbin, dIntBin, okR, callG, endN, newV, rowS, frzS, frzOf_def, frz_nil, frz_cons, frzD, rowList, rowElem, stepRow, madeRow, isLocal, isAlloc, loadsOwn, ptrAt, beq_true, beq_false, Bool.not_true, Bool.not_false, pureB, leaf, leafN, List.all_cons, List.all_nil, List.nil_append, List.cons_append, List.append_nil, List.take_nil, List.range_zero, List.length_nil, List.length_cons, String.reduceBEq, Bool.true_beq, Bool.false_beq, List.find?_cons, List.find?_nil, dun, List.getElem?_nil, List.take_zero, List.drop_zero, List.take_succ_cons, List.drop_succ_cons, dcells, Nat.zero_add, Nat.reduceAdd, Nat.reduceSub, Nat.reduceMul, stepBox, Bool.and_false, Bool.false_and, and_true, true_and, List.zipWith, Option.getD_some, List.singleton_append, List.map_map, Int.natCast_nonneg, Int.toNat_natCast, and_self, Nat.mul_one, Nat.add_zero, if_true, St.freeze, false_or, or_true, true_or, or_false, szOk_cons, szOk_nil, List.cons.injEq, false_and, and_false, forall_const, List.getElem?_toArray, List.getElem_toArray, dopt, dbound, ge_iff_le, gt_iff_lt, dStrBin, List.take_length, plainR_s, Int.reduceLE, Int.reduceLT, Int.reduceToNat, Int.reduceBEq, Int.reduceBNe, isBar, optIn, allocKeys, takes, ptrArgs, callArgs, ptrIn_nil, ptrIn_int, ptrIn_bool, ptrIn_str, ptrIn_agg, ptrIn_list, ptrIn_fix, ptrIn_con, ptrIn_ptr, ptrIn1, ren, ren1, argOk, argOk1, given, oroom, clearR, vroom, nilR, Option.isSome_none, Option.isSome_some, stepTake, stepPtr, notAgg, ite_self, ty3, dp3, ty4, dp4, ty9, dp9, len9, ty33, dp33, fa33_0, fp33_0, fa33_1, fp33_1, fa33_2, fp33_2, ty35, dp35, fa35_0, fp35_0, fa35_1, fp35_1, ty37, dp37, fa37_0, fp37_0, fa37_1, fp37_1, fa37_2, fp37_2, fa37_3, fp37_3, fa37_4, fp37_4, fa37_5, fp37_5, fa37_6, fp37_6, fa37_7, fp37_7, ty46, dp46, fa46_0, fp46_0, fa46_1, fp46_1, ty30, dp30, fa30_0, fp30_0, ty39, dp39, fa39_0, fp39_0, fa39_1, fp39_1, fa39_2, fp39_2, dp33_4_11, dp35_8_11, ty44, dp44, ia44, len44, ty28, dp28, ia28, len28, ty22, dp22, ia22, len22, frzOps_nil, noEatS, putR3, zr37, zr46, zr30, zrm37, zrm46, zrm30, eq33, eq35, ptrIn_fn0, ptrIn_fn1, Option.some.injEq, List.drop_nil, lenOk_small]|refine drW_intro (by kernel_rfl) ?_|refine gw_intro (fun h => ?_) (fun h => ?_) <;> try simp only [beq_true, beq_false, Bool.not_eq_eq_eq_not, Bool.not_true, Bool.not_false, Bool.not_not, decide_eq_true_eq, decide_eq_false_iff_not, ge_iff_le, gt_iff_lt] at h)
                      refine hr3 _ ?_
                      refine hr2 _ ?_
                      refine hr _ ?_
                      repeat' (first|simp only [*, go_nil, go_seq, go_cond, go_block, go_blk, go_skip, go_exit, go_retc, go_xcode, go_xblk, go_loop, go_region, go_draw, go_ops_nil, go_dops_nil, go_ops, go_dops, okG_some, okB_some, gwD_bool, gwD_undef, cwD_bool, gw_true, gw_false, guardG_none, guardG, opG, opD, isPtr, inB, sval, stake, eats, eaters, get, cval, cval1, croom, St.taken, put_slot, put_room, put_box, put_ctr, put_none, dem_none, dem_slot, dem_box, dem_ctr, dem_room, dem_room1, setBox_slot, setBox_room, setBox_ctr, setBox_box, entry_slot, entry_room, entry_box, entry_ctr, endQ, endR, endV, rvars, rvar, room1, ↓reduceIte, Nat.reduceEqDiff, Nat.reduceLT, Nat.reduceLeDiff, reduceCtorEq, decide_true, decide_false, List.filterMap_cons, List.filterMap_nil, Option.bind_some, Option.map_some, Option.bind_none, Option.map_none, List.getElem?_cons_zero, List.getElem?_cons_succ, List.getD_cons_zero, List.getD_cons_succ, List.contains_cons, List.contains_nil, List.map_cons, List.map_nil, beq_self_eq_true, beq_iff_eq, Bool.or_false, Bool.false_or, Bool.or_true, Bool.true_or, Bool.and_true, Bool.true_and, Nat.reduceBEq, Bool.false_eq_true, dbin, dIntBin, okR, callG, endN, newV, rowS, frzS, frzOf_def, frz_nil, frz_cons, frzD, rowList, rowElem, stepRow, madeRow, isLocal, isAlloc, loadsOwn, ptrAt, beq_true, beq_false, Bool.not_true, Bool.not_false, pureB, leaf, leafN, List.all_cons, List.all_nil, List.nil_append, List.cons_append, List.append_nil, List.take_nil, List.range_zero, List.length_nil, List.length_cons, String.reduceBEq, Bool.true_beq, Bool.false_beq, List.find?_cons, List.find?_nil, dun, List.getElem?_nil, List.take_zero, List.drop_zero, List.take_succ_cons, List.drop_succ_cons, dcells, Nat.zero_add, Nat.reduceAdd, Nat.reduceSub, Nat.reduceMul, stepBox, Bool.and_false, Bool.false_and, and_true, true_and, List.zipWith, Option.getD_some, List.singleton_append, List.map_map, Int.natCast_nonneg, Int.toNat_natCast, and_self, Nat.mul_one, Nat.add_zero, if_true, St.freeze, false_or, or_true, true_or, or_false, szOk_cons, szOk_nil, List.cons.injEq, false_and, and_false, forall_const, List.getElem?_toArray, List.getElem_toArray, dopt, dbound, ge_iff_le, gt_iff_lt, dStrBin, List.take_length, plainR_s, Int.reduceLE, Int.reduceLT, Int.reduceToNat, Int.reduceBEq, Int.reduceBNe, isBar, optIn, allocKeys, takes, ptrArgs, callArgs, ptrIn_nil, ptrIn_int, ptrIn_bool, ptrIn_str, ptrIn_agg, ptrIn_list, ptrIn_fix, ptrIn_con, ptrIn_ptr, ptrIn1, ren, ren1, argOk, argOk1, given, oroom, clearR, vroom, nilR, Option.isSome_none, Option.isSome_some, stepTake, stepPtr, notAgg, ite_self, ty3, dp3, ty4, dp4, ty9, dp9, len9, ty33, dp33, fa33_0, fp33_0, fa33_1, fp33_1, fa33_2, fp33_2, ty35, dp35, fa35_0, fp35_0, fa35_1, fp35_1, ty37, dp37, fa37_0, fp37_0, fa37_1, fp37_1, fa37_2, fp37_2, fa37_3, fp37_3, fa37_4, fp37_4, fa37_5, fp37_5, fa37_6, fp37_6, fa37_7, fp37_7, ty46, dp46, fa46_0, fp46_0, fa46_1, fp46_1, ty30, dp30, fa30_0, fp30_0, ty39, dp39, fa39_0, fp39_0, fa39_1, fp39_1, fa39_2, fp39_2, dp33_4_11, dp35_8_11, ty44, dp44, ia44, len44, ty28, dp28, ia28, len28, ty22, dp22, ia22, len22, frzOps_nil, noEatS, putR3, zr37, zr46, zr30, zrm37, zrm46, zrm30, eq33, eq35, ptrIn_fn0, ptrIn_fn1, Option.some.injEq, List.drop_nil, lenOk_small]|refine drW_intro (by kernel_rfl) ?_|refine gw_intro (fun h => ?_) (fun h => ?_) <;> try simp only [beq_true, beq_false, Bool.not_eq_eq_eq_not, Bool.not_true, Bool.not_false, Bool.not_not, decide_eq_true_eq, decide_eq_false_iff_not, ge_iff_le, gt_iff_lt] at h)
                    rw [decide_eq_false c3, Bool.false_or] at hO'
                    by_cases c4 : (40 : Int) < deep
                    · rw [decide_eq_true c4, if_pos rfl] at hO'
                      have hO2 : R = most + 1 := hO'
                      subst hO2
                      clear hn3 hn2 hO' m1 m2 d1 d2 n1 n2 q2 q3 q4
                      repeat' (first|simp only [*, go_nil, go_seq, go_cond, go_block, go_blk, go_skip, go_exit, go_retc, go_xcode, go_xblk, go_loop, go_region, go_draw, go_ops_nil, go_dops_nil, go_ops, go_dops, okG_some, okB_some, gwD_bool, gwD_undef, cwD_bool, gw_true, gw_false, guardG_none, guardG, opG, opD, isPtr, inB, sval, stake, eats, eaters, get, cval, cval1, croom, St.taken, put_slot, put_room, put_box, put_ctr, put_none, dem_none, dem_slot, dem_box, dem_ctr, dem_room, dem_room1, setBox_slot, setBox_room, setBox_ctr, setBox_box, entry_slot, entry_room, entry_box, entry_ctr, endQ, endR, endV, rvars, rvar, room1, ↓reduceIte, Nat.reduceEqDiff, Nat.reduceLT, Nat.reduceLeDiff, reduceCtorEq, decide_true, decide_false, List.filterMap_cons, List.filterMap_nil, Option.bind_some, Option.map_some, Option.bind_none, Option.map_none, List.getElem?_cons_zero, List.getElem?_cons_succ, List.getD_cons_zero, List.getD_cons_succ, List.contains_cons, List.contains_nil, List.map_cons, List.map_nil, beq_self_eq_true, beq_iff_eq, Bool.or_false, Bool.false_or, Bool.or_true, Bool.true_or, Bool.and_true, Bool.true_and, Nat.reduceBEq, Bool.false_eq_true, dbin, dIntBin, okR, callG, endN, newV, rowS, frzS, frzOf_def, frz_nil, frz_cons, frzD, rowList, rowElem, stepRow, madeRow, isLocal, isAlloc, loadsOwn, ptrAt, beq_true, beq_false, Bool.not_true, Bool.not_false, pureB, leaf, leafN, List.all_cons, List.all_nil, List.nil_append, List.cons_append, List.append_nil, List.take_nil, List.range_zero, List.length_nil, List.length_cons, String.reduceBEq, Bool.true_beq, Bool.false_beq, List.find?_cons, List.find?_nil, dun, List.getElem?_nil, List.take_zero, List.drop_zero, List.take_succ_cons, List.drop_succ_cons, dcells, Nat.zero_add, Nat.reduceAdd, Nat.reduceSub, Nat.reduceMul, stepBox, Bool.and_false, Bool.false_and, and_true, true_and, List.zipWith, Option.getD_some, List.singleton_append, List.map_map, Int.natCast_nonneg, Int.toNat_natCast, and_self, Nat.mul_one, Nat.add_zero, if_true, St.freeze, false_or, or_true, true_or, or_false, szOk_cons, szOk_nil, List.cons.injEq, false_and, and_false, forall_const, List.getElem?_toArray, List.getElem_toArray, dopt, dbound, ge_iff_le, gt_iff_lt, dStrBin, List.take_length, plainR_s, Int.reduceLE, Int.reduceLT, Int.reduceToNat, Int.reduceBEq, Int.reduceBNe, isBar, optIn, allocKeys, takes, ptrArgs, callArgs, ptrIn_nil, ptrIn_int, ptrIn_bool, ptrIn_str, ptrIn_agg, ptrIn_list, ptrIn_fix, ptrIn_con, ptrIn_ptr, ptrIn1, ren, ren1, argOk, argOk1, given, oroom, clearR, vroom, nilR, Option.isSome_none, Option.isSome_some, stepTake, stepPtr, notAgg, ite_self, ty3, dp3, ty4, dp4, ty9, dp9, len9, ty33, dp33, fa33_0, fp33_0, fa33_1, fp33_1, fa33_2, fp33_2, ty35, dp35, fa35_0, fp35_0, fa35_1, fp35_1, ty37, dp37, fa37_0, fp37_0, fa37_1, fp37_1, fa37_2, fp37_2, fa37_3, fp37_3, fa37_4, fp37_4, fa37_5, fp37_5, fa37_6, fp37_6, fa37_7, fp37_7, ty46, dp46, fa46_0, fp46_0, fa46_1, fp46_1, ty30, dp30, fa30_0, fp30_0, ty39, dp39, fa39_0, fp39_0, fa39_1, fp39_1, fa39_2, fp39_2, dp33_4_11, dp35_8_11, ty44, dp44, ia44, len44, ty28, dp28, ia28, len28, ty22, dp22, ia22, len22, frzOps_nil, noEatS, putR3, zr37, zr46, zr30, zrm37, zrm46, zrm30, eq33, eq35, ptrIn_fn0, ptrIn_fn1, Option.some.injEq, List.drop_nil, lenOk_small]|refine drW_intro (by kernel_rfl) ?_|refine gw_intro (fun h => ?_) (fun h => ?_) <;> try simp only [beq_true, beq_false, Bool.not_eq_eq_eq_not, Bool.not_true, Bool.not_false, Bool.not_not, decide_eq_true_eq, decide_eq_false_iff_not, ge_iff_le, gt_iff_lt] at h)
                      refine hr3 _ ?_
                      refine hr2 _ ?_
                      refine hr _ ?_
                      repeat' (first|simp only [*, go_nil, go_seq, go_cond, go_block, go_blk, go_skip, go_exit, go_retc, go_xcode, go_xblk, go_loop, go_region, go_draw, go_ops_nil, go_dops_nil, go_ops, go_dops, okG_some, okB_some, gwD_bool, gwD_undef, cwD_bool, gw_true, gw_false, guardG_none, guardG, opG, opD, isPtr, inB, sval, stake, eats, eaters, get, cval, cval1, croom, St.taken, put_slot, put_room, put_box, put_ctr, put_none, dem_none, dem_slot, dem_box, dem_ctr, dem_room, dem_room1, setBox_slot, setBox_room, setBox_ctr, setBox_box, entry_slot, entry_room, entry_box, entry_ctr, endQ, endR, endV, rvars, rvar, room1, ↓reduceIte, Nat.reduceEqDiff, Nat.reduceLT, Nat.reduceLeDiff, reduceCtorEq, decide_true, decide_false, List.filterMap_cons, List.filterMap_nil, Option.bind_some, Option.map_some, Option.bind_none, Option.map_none, List.getElem?_cons_zero, List.getElem?_cons_succ, List.getD_cons_zero, List.getD_cons_succ, List.contains_cons, List.contains_nil, List.map_cons, List.map_nil, beq_self_eq_true, beq_iff_eq, Bool.or_false, Bool.false_or, Bool.or_true, Bool.true_or, Bool.and_true, Bool.true_and, Nat.reduceBEq, Bool.false_eq_true, dbin, dIntBin, okR, callG, endN, newV, rowS, frzS, frzOf_def, frz_nil, frz_cons, frzD, rowList, rowElem, stepRow, madeRow, isLocal, isAlloc, loadsOwn, ptrAt, beq_true, beq_false, Bool.not_true, Bool.not_false, pureB, leaf, leafN, List.all_cons, List.all_nil, List.nil_append, List.cons_append, List.append_nil, List.take_nil, List.range_zero, List.length_nil, List.length_cons, String.reduceBEq, Bool.true_beq, Bool.false_beq, List.find?_cons, List.find?_nil, dun, List.getElem?_nil, List.take_zero, List.drop_zero, List.take_succ_cons, List.drop_succ_cons, dcells, Nat.zero_add, Nat.reduceAdd, Nat.reduceSub, Nat.reduceMul, stepBox, Bool.and_false, Bool.false_and, and_true, true_and, List.zipWith, Option.getD_some, List.singleton_append, List.map_map, Int.natCast_nonneg, Int.toNat_natCast, and_self, Nat.mul_one, Nat.add_zero, if_true, St.freeze, false_or, or_true, true_or, or_false, szOk_cons, szOk_nil, List.cons.injEq, false_and, and_false, forall_const, List.getElem?_toArray, List.getElem_toArray, dopt, dbound, ge_iff_le, gt_iff_lt, dStrBin, List.take_length, plainR_s, Int.reduceLE, Int.reduceLT, Int.reduceToNat, Int.reduceBEq, Int.reduceBNe, isBar, optIn, allocKeys, takes, ptrArgs, callArgs, ptrIn_nil, ptrIn_int, ptrIn_bool, ptrIn_str, ptrIn_agg, ptrIn_list, ptrIn_fix, ptrIn_con, ptrIn_ptr, ptrIn1, ren, ren1, argOk, argOk1, given, oroom, clearR, vroom, nilR, Option.isSome_none, Option.isSome_some, stepTake, stepPtr, notAgg, ite_self, ty3, dp3, ty4, dp4, ty9, dp9, len9, ty33, dp33, fa33_0, fp33_0, fa33_1, fp33_1, fa33_2, fp33_2, ty35, dp35, fa35_0, fp35_0, fa35_1, fp35_1, ty37, dp37, fa37_0, fp37_0, fa37_1, fp37_1, fa37_2, fp37_2, fa37_3, fp37_3, fa37_4, fp37_4, fa37_5, fp37_5, fa37_6, fp37_6, fa37_7, fp37_7, ty46, dp46, fa46_0, fp46_0, fa46_1, fp46_1, ty30, dp30, fa30_0, fp30_0, ty39, dp39, fa39_0, fp39_0, fa39_1, fp39_1, fa39_2, fp39_2, dp33_4_11, dp35_8_11, ty44, dp44, ia44, len44, ty28, dp28, ia28, len28, ty22, dp22, ia22, len22, frzOps_nil, noEatS, putR3, zr37, zr46, zr30, zrm37, zrm46, zrm30, eq33, eq35, ptrIn_fn0, ptrIn_fn1, Option.some.injEq, List.drop_nil, lenOk_small]|refine drW_intro (by kernel_rfl) ?_|refine gw_intro (fun h => ?_) (fun h => ?_) <;> try simp only [beq_true, beq_false, Bool.not_eq_eq_eq_not, Bool.not_true, Bool.not_false, Bool.not_not, decide_eq_true_eq, decide_eq_false_iff_not, ge_iff_le, gt_iff_lt] at h)
                    rw [decide_eq_false c4, if_neg (by decide)] at hO'
                    have hcall := q2 (by omega)
                    have hw8 : IntKind.i64.wrap (n + 1 + C S.of_) = n + 1 + C S.of_ := wrap64 _ (by omega) (by omega)
                    have HB : Hd (0 ≤ n + 1 + C S.of_ ∧ n + 1 + C S.of_ ≤ 1125899906852624) := Hd.mk ⟨by omega, by omega⟩
                    have HO2 := Hd.mk hO'
                    clear hO' hr3 hn2 hr2 hr m1 m2 d1 d2 n1 n2 q2 q3 q4
                    repeat' (first|simp only [*, go_nil, go_seq, go_cond, go_block, go_blk, go_skip, go_exit, go_retc, go_xcode, go_xblk, go_loop, go_region, go_draw, go_ops_nil, go_dops_nil, go_ops, go_dops, okG_some, okB_some, gwD_bool, gwD_undef, cwD_bool, gw_true, gw_false, guardG_none, guardG, opG, opD, isPtr, inB, sval, stake, eats, eaters, get, cval, cval1, croom, St.taken, put_slot, put_room, put_box, put_ctr, put_none, dem_none, dem_slot, dem_box, dem_ctr, dem_room, dem_room1, setBox_slot, setBox_room, setBox_ctr, setBox_box, entry_slot, entry_room, entry_box, entry_ctr, endQ, endR, endV, rvars, rvar, room1, ↓reduceIte, Nat.reduceEqDiff, Nat.reduceLT, Nat.reduceLeDiff, reduceCtorEq, decide_true, decide_false, List.filterMap_cons, List.filterMap_nil, Option.bind_some, Option.map_some, Option.bind_none, Option.map_none, List.getElem?_cons_zero, List.getElem?_cons_succ, List.getD_cons_zero, List.getD_cons_succ, List.contains_cons, List.contains_nil, List.map_cons, List.map_nil, beq_self_eq_true, beq_iff_eq, Bool.or_false, Bool.false_or, Bool.or_true, Bool.true_or, Bool.and_true, Bool.true_and, Nat.reduceBEq, Bool.false_eq_true, dbin, dIntBin, okR, callG, endN, newV, rowS, frzS, frzOf_def, frz_nil, frz_cons, frzD, rowList, rowElem, stepRow, madeRow, isLocal, isAlloc, loadsOwn, ptrAt, beq_true, beq_false, Bool.not_true, Bool.not_false, pureB, leaf, leafN, List.all_cons, List.all_nil, List.nil_append, List.cons_append, List.append_nil, List.take_nil, List.range_zero, List.length_nil, List.length_cons, String.reduceBEq, Bool.true_beq, Bool.false_beq, List.find?_cons, List.find?_nil, dun, List.getElem?_nil, List.take_zero, List.drop_zero, List.take_succ_cons, List.drop_succ_cons, dcells, Nat.zero_add, Nat.reduceAdd, Nat.reduceSub, Nat.reduceMul, stepBox, Bool.and_false, Bool.false_and, and_true, true_and, List.zipWith, Option.getD_some, List.singleton_append, List.map_map, Int.natCast_nonneg, Int.toNat_natCast, and_self, Nat.mul_one, Nat.add_zero, if_true, St.freeze, false_or, or_true, true_or, or_false, szOk_cons, szOk_nil, List.cons.injEq, false_and, and_false, forall_const, List.getElem?_toArray, List.getElem_toArray, dopt, dbound, ge_iff_le, gt_iff_lt, dStrBin, List.take_length, plainR_s, Int.reduceLE, Int.reduceLT, Int.reduceToNat, Int.reduceBEq, Int.reduceBNe, isBar, optIn, allocKeys, takes, ptrArgs, callArgs, ptrIn_nil, ptrIn_int, ptrIn_bool, ptrIn_str, ptrIn_agg, ptrIn_list, ptrIn_fix, ptrIn_con, ptrIn_ptr, ptrIn1, ren, ren1, argOk, argOk1, given, oroom, clearR, vroom, nilR, Option.isSome_none, Option.isSome_some, stepTake, stepPtr, notAgg, ite_self, ty3, dp3, ty4, dp4, ty9, dp9, len9, ty33, dp33, fa33_0, fp33_0, fa33_1, fp33_1, fa33_2, fp33_2, ty35, dp35, fa35_0, fp35_0, fa35_1, fp35_1, ty37, dp37, fa37_0, fp37_0, fa37_1, fp37_1, fa37_2, fp37_2, fa37_3, fp37_3, fa37_4, fp37_4, fa37_5, fp37_5, fa37_6, fp37_6, fa37_7, fp37_7, ty46, dp46, fa46_0, fp46_0, fa46_1, fp46_1, ty30, dp30, fa30_0, fp30_0, ty39, dp39, fa39_0, fp39_0, fa39_1, fp39_1, fa39_2, fp39_2, dp33_4_11, dp35_8_11, ty44, dp44, ia44, len44, ty28, dp28, ia28, len28, ty22, dp22, ia22, len22, frzOps_nil, noEatS, putR3, zr37, zr46, zr30, zrm37, zrm46, zrm30, eq33, eq35, ptrIn_fn0, ptrIn_fn1, Option.some.injEq, List.drop_nil, lenOk_small]|refine drW_intro (by kernel_rfl) ?_|refine gw_intro (fun h => ?_) (fun h => ?_) <;> try simp only [beq_true, beq_false, Bool.not_eq_eq_eq_not, Bool.not_true, Bool.not_false, Bool.not_not, decide_eq_true_eq, decide_eq_false_iff_not, ge_iff_le, gt_iff_lt] at h)
                    refine hn3 _ ⟨m + 1, n + 1 + C S.of_, HM0, ?_, ?_, ?_, ?_, ?_, ?_, ?_, ?_, ?_, HB, HO2⟩ ?_
                    · exact L
                    · exact L
                    · exact L
                    · exact L
                    · exact L
                    · exact L
                    · exact L
                    · exact L
                    · exact L
                    · have hm2 : m < Y.length := HM0
                      exact Z
                  · rw [if_neg h2, Option.bind_some] at hO'
                    have HO2 := Hd.mk hO'
                    clear hO hO' hr3 hn3 hr2 hr hs1 hyl h
                    repeat' (first|simp only [*, go_nil, go_seq, go_cond, go_block, go_blk, go_skip, go_exit, go_retc, go_xcode, go_xblk, go_loop, go_region, go_draw, go_ops_nil, go_dops_nil, go_ops, go_dops, okG_some, okB_some, gwD_bool, gwD_undef, cwD_bool, gw_true, gw_false, guardG_none, guardG, opG, opD, isPtr, inB, sval, stake, eats, eaters, get, cval, cval1, croom, St.taken, put_slot, put_room, put_box, put_ctr, put_none, dem_none, dem_slot, dem_box, dem_ctr, dem_room, dem_room1, setBox_slot, setBox_room, setBox_ctr, setBox_box, entry_slot, entry_room, entry_box, entry_ctr, endQ, endR, endV, rvars, rvar, room1, ↓reduceIte, Nat.reduceEqDiff, Nat.reduceLT, Nat.reduceLeDiff, reduceCtorEq, decide_true, decide_false, List.filterMap_cons, List.filterMap_nil, Option.bind_some, Option.map_some, Option.bind_none, Option.map_none, List.getElem?_cons_zero, List.getElem?_cons_succ, List.getD_cons_zero, List.getD_cons_succ, List.contains_cons, List.contains_nil, List.map_cons, List.map_nil, beq_self_eq_true, beq_iff_eq, Bool.or_false, Bool.false_or, Bool.or_true, Bool.true_or, Bool.and_true, Bool.true_and, Nat.reduceBEq, Bool.false_eq_true, dbin, dIntBin, okR, callG, endN, newV, rowS, frzS, frzOf_def, frz_nil, frz_cons, frzD, rowList, rowElem, stepRow, madeRow, isLocal, isAlloc, loadsOwn, ptrAt, beq_true, beq_false, Bool.not_true, Bool.not_false, pureB, leaf, leafN, List.all_cons, List.all_nil, List.nil_append, List.cons_append, List.append_nil, List.take_nil, List.range_zero, List.length_nil, List.length_cons, String.reduceBEq, Bool.true_beq, Bool.false_beq, List.find?_cons, List.find?_nil, dun, List.getElem?_nil, List.take_zero, List.drop_zero, List.take_succ_cons, List.drop_succ_cons, dcells, Nat.zero_add, Nat.reduceAdd, Nat.reduceSub, Nat.reduceMul, stepBox, Bool.and_false, Bool.false_and, and_true, true_and, List.zipWith, Option.getD_some, List.singleton_append, List.map_map, Int.natCast_nonneg, Int.toNat_natCast, and_self, Nat.mul_one, Nat.add_zero, if_true, St.freeze, false_or, or_true, true_or, or_false, szOk_cons, szOk_nil, List.cons.injEq, false_and, and_false, forall_const, List.getElem?_toArray, List.getElem_toArray, dopt, dbound, ge_iff_le, gt_iff_lt, dStrBin, List.take_length, plainR_s, Int.reduceLE, Int.reduceLT, Int.reduceToNat, Int.reduceBEq, Int.reduceBNe, isBar, optIn, allocKeys, takes, ptrArgs, callArgs, ptrIn_nil, ptrIn_int, ptrIn_bool, ptrIn_str, ptrIn_agg, ptrIn_list, ptrIn_fix, ptrIn_con, ptrIn_ptr, ptrIn1, ren, ren1, argOk, argOk1, given, oroom, clearR, vroom, nilR, Option.isSome_none, Option.isSome_some, stepTake, stepPtr, notAgg, ite_self, ty3, dp3, ty4, dp4, ty9, dp9, len9, ty33, dp33, fa33_0, fp33_0, fa33_1, fp33_1, fa33_2, fp33_2, ty35, dp35, fa35_0, fp35_0, fa35_1, fp35_1, ty37, dp37, fa37_0, fp37_0, fa37_1, fp37_1, fa37_2, fp37_2, fa37_3, fp37_3, fa37_4, fp37_4, fa37_5, fp37_5, fa37_6, fp37_6, fa37_7, fp37_7, ty46, dp46, fa46_0, fp46_0, fa46_1, fp46_1, ty30, dp30, fa30_0, fp30_0, ty39, dp39, fa39_0, fp39_0, fa39_1, fp39_1, fa39_2, fp39_2, dp33_4_11, dp35_8_11, ty44, dp44, ia44, len44, ty28, dp28, ia28, len28, ty22, dp22, ia22, len22, frzOps_nil, noEatS, putR3, zr37, zr46, zr30, zrm37, zrm46, zrm30, eq33, eq35, ptrIn_fn0, ptrIn_fn1, Option.some.injEq, List.drop_nil, lenOk_small]|refine drW_intro (by kernel_rfl) ?_|refine gw_intro (fun h => ?_) (fun h => ?_) <;> try simp only [beq_true, beq_false, Bool.not_eq_eq_eq_not, Bool.not_true, Bool.not_false, Bool.not_not, decide_eq_true_eq, decide_eq_false_iff_not, ge_iff_le, gt_iff_lt] at h)
                    refine hx3 _ _ ?_
                    repeat' (first|simp only [*, go_nil, go_seq, go_cond, go_block, go_blk, go_skip, go_exit, go_retc, go_xcode, go_xblk, go_loop, go_region, go_draw, go_ops_nil, go_dops_nil, go_ops, go_dops, okG_some, okB_some, gwD_bool, gwD_undef, cwD_bool, gw_true, gw_false, guardG_none, guardG, opG, opD, isPtr, inB, sval, stake, eats, eaters, get, cval, cval1, croom, St.taken, put_slot, put_room, put_box, put_ctr, put_none, dem_none, dem_slot, dem_box, dem_ctr, dem_room, dem_room1, setBox_slot, setBox_room, setBox_ctr, setBox_box, entry_slot, entry_room, entry_box, entry_ctr, endQ, endR, endV, rvars, rvar, room1, ↓reduceIte, Nat.reduceEqDiff, Nat.reduceLT, Nat.reduceLeDiff, reduceCtorEq, decide_true, decide_false, List.filterMap_cons, List.filterMap_nil, Option.bind_some, Option.map_some, Option.bind_none, Option.map_none, List.getElem?_cons_zero, List.getElem?_cons_succ, List.getD_cons_zero, List.getD_cons_succ, List.contains_cons, List.contains_nil, List.map_cons, List.map_nil, beq_self_eq_true, beq_iff_eq, Bool.or_false, Bool.false_or, Bool.or_true, Bool.true_or, Bool.and_true, Bool.true_and, Nat.reduceBEq, Bool.false_eq_true, dbin, dIntBin, okR, callG, endN, newV, rowS, frzS, frzOf_def, frz_nil, frz_cons, frzD, rowList, rowElem, stepRow, madeRow, isLocal, isAlloc, loadsOwn, ptrAt, beq_true, beq_false, Bool.not_true, Bool.not_false, pureB, leaf, leafN, List.all_cons, List.all_nil, List.nil_append, List.cons_append, List.append_nil, List.take_nil, List.range_zero, List.length_nil, List.length_cons, String.reduceBEq, Bool.true_beq, Bool.false_beq, List.find?_cons, List.find?_nil, dun, List.getElem?_nil, List.take_zero, List.drop_zero, List.take_succ_cons, List.drop_succ_cons, dcells, Nat.zero_add, Nat.reduceAdd, Nat.reduceSub, Nat.reduceMul, stepBox, Bool.and_false, Bool.false_and, and_true, true_and, List.zipWith, Option.getD_some, List.singleton_append, List.map_map, Int.natCast_nonneg, Int.toNat_natCast, and_self, Nat.mul_one, Nat.add_zero, if_true, St.freeze, false_or, or_true, true_or, or_false, szOk_cons, szOk_nil, List.cons.injEq, false_and, and_false, forall_const, List.getElem?_toArray, List.getElem_toArray, dopt, dbound, ge_iff_le, gt_iff_lt, dStrBin, List.take_length, plainR_s, Int.reduceLE, Int.reduceLT, Int.reduceToNat, Int.reduceBEq, Int.reduceBNe, isBar, optIn, allocKeys, takes, ptrArgs, callArgs, ptrIn_nil, ptrIn_int, ptrIn_bool, ptrIn_str, ptrIn_agg, ptrIn_list, ptrIn_fix, ptrIn_con, ptrIn_ptr, ptrIn1, ren, ren1, argOk, argOk1, given, oroom, clearR, vroom, nilR, Option.isSome_none, Option.isSome_some, stepTake, stepPtr, notAgg, ite_self, ty3, dp3, ty4, dp4, ty9, dp9, len9, ty33, dp33, fa33_0, fp33_0, fa33_1, fp33_1, fa33_2, fp33_2, ty35, dp35, fa35_0, fp35_0, fa35_1, fp35_1, ty37, dp37, fa37_0, fp37_0, fa37_1, fp37_1, fa37_2, fp37_2, fa37_3, fp37_3, fa37_4, fp37_4, fa37_5, fp37_5, fa37_6, fp37_6, fa37_7, fp37_7, ty46, dp46, fa46_0, fp46_0, fa46_1, fp46_1, ty30, dp30, fa30_0, fp30_0, ty39, dp39, fa39_0, fp39_0, fa39_1, fp39_1, fa39_2, fp39_2, dp33_4_11, dp35_8_11, ty44, dp44, ia44, len44, ty28, dp28, ia28, len28, ty22, dp22, ia22, len22, frzOps_nil, noEatS, putR3, zr37, zr46, zr30, zrm37, zrm46, zrm30, eq33, eq35, ptrIn_fn0, ptrIn_fn1, Option.some.injEq, List.drop_nil, lenOk_small]|refine drW_intro (by kernel_rfl) ?_|refine gw_intro (fun h => ?_) (fun h => ?_) <;> try simp only [beq_true, beq_false, Bool.not_eq_eq_eq_not, Bool.not_true, Bool.not_false, Bool.not_not, decide_eq_true_eq, decide_eq_false_iff_not, ge_iff_le, gt_iff_lt] at h)
                    have hk2 : k < X.length := HK
                    refine hn2 _ ⟨k + 1, n, hk2, ?_, ?_, ?_, ?_, ?_, ?_, ?_, hnn, HO2⟩ ?_
                    · exact L
                    · exact L
                    · exact L
                    · exact L
                    · exact L
                    · exact L
                    · exact L
                    · have e9 : st'.slot 9 = .int .i64 k := E9
                      exact Z
                · have g11 : ¬ (m : Int) < Y.length := by omega
                  rw [List.drop_eq_nil_of_le (by omega), cntX, Option.bind_some] at hO'
                  have HO2 := Hd.mk hO'
                  clear hO hO' hr3 hn3 hr2 hr hyl h
                  repeat' (first|simp only [*, go_nil, go_seq, go_cond, go_block, go_blk, go_skip, go_exit, go_retc, go_xcode, go_xblk, go_loop, go_region, go_draw, go_ops_nil, go_dops_nil, go_ops, go_dops, okG_some, okB_some, gwD_bool, gwD_undef, cwD_bool, gw_true, gw_false, guardG_none, guardG, opG, opD, isPtr, inB, sval, stake, eats, eaters, get, cval, cval1, croom, St.taken, put_slot, put_room, put_box, put_ctr, put_none, dem_none, dem_slot, dem_box, dem_ctr, dem_room, dem_room1, setBox_slot, setBox_room, setBox_ctr, setBox_box, entry_slot, entry_room, entry_box, entry_ctr, endQ, endR, endV, rvars, rvar, room1, ↓reduceIte, Nat.reduceEqDiff, Nat.reduceLT, Nat.reduceLeDiff, reduceCtorEq, decide_true, decide_false, List.filterMap_cons, List.filterMap_nil, Option.bind_some, Option.map_some, Option.bind_none, Option.map_none, List.getElem?_cons_zero, List.getElem?_cons_succ, List.getD_cons_zero, List.getD_cons_succ, List.contains_cons, List.contains_nil, List.map_cons, List.map_nil, beq_self_eq_true, beq_iff_eq, Bool.or_false, Bool.false_or, Bool.or_true, Bool.true_or, Bool.and_true, Bool.true_and, Nat.reduceBEq, Bool.false_eq_true, dbin, dIntBin, okR, callG, endN, newV, rowS, frzS, frzOf_def, frz_nil, frz_cons, frzD, rowList, rowElem, stepRow, madeRow, isLocal, isAlloc, loadsOwn, ptrAt, beq_true, beq_false, Bool.not_true, Bool.not_false, pureB, leaf, leafN, List.all_cons, List.all_nil, List.nil_append, List.cons_append, List.append_nil, List.take_nil, List.range_zero, List.length_nil, List.length_cons, String.reduceBEq, Bool.true_beq, Bool.false_beq, List.find?_cons, List.find?_nil, dun, List.getElem?_nil, List.take_zero, List.drop_zero, List.take_succ_cons, List.drop_succ_cons, dcells, Nat.zero_add, Nat.reduceAdd, Nat.reduceSub, Nat.reduceMul, stepBox, Bool.and_false, Bool.false_and, and_true, true_and, List.zipWith, Option.getD_some, List.singleton_append, List.map_map, Int.natCast_nonneg, Int.toNat_natCast, and_self, Nat.mul_one, Nat.add_zero, if_true, St.freeze, false_or, or_true, true_or, or_false, szOk_cons, szOk_nil, List.cons.injEq, false_and, and_false, forall_const, List.getElem?_toArray, List.getElem_toArray, dopt, dbound, ge_iff_le, gt_iff_lt, dStrBin, List.take_length, plainR_s, Int.reduceLE, Int.reduceLT, Int.reduceToNat, Int.reduceBEq, Int.reduceBNe, isBar, optIn, allocKeys, takes, ptrArgs, callArgs, ptrIn_nil, ptrIn_int, ptrIn_bool, ptrIn_str, ptrIn_agg, ptrIn_list, ptrIn_fix, ptrIn_con, ptrIn_ptr, ptrIn1, ren, ren1, argOk, argOk1, given, oroom, clearR, vroom, nilR, Option.isSome_none, Option.isSome_some, stepTake, stepPtr, notAgg, ite_self, ty3, dp3, ty4, dp4, ty9, dp9, len9, ty33, dp33, fa33_0, fp33_0, fa33_1, fp33_1, fa33_2, fp33_2, ty35, dp35, fa35_0, fp35_0, fa35_1, fp35_1, ty37, dp37, fa37_0, fp37_0, fa37_1, fp37_1, fa37_2, fp37_2, fa37_3, fp37_3, fa37_4, fp37_4, fa37_5, fp37_5, fa37_6, fp37_6, fa37_7, fp37_7, ty46, dp46, fa46_0, fp46_0, fa46_1, fp46_1, ty30, dp30, fa30_0, fp30_0, ty39, dp39, fa39_0, fp39_0, fa39_1, fp39_1, fa39_2, fp39_2, dp33_4_11, dp35_8_11, ty44, dp44, ia44, len44, ty28, dp28, ia28, len28, ty22, dp22, ia22, len22, frzOps_nil, noEatS, putR3, zr37, zr46, zr30, zrm37, zrm46, zrm30, eq33, eq35, ptrIn_fn0, ptrIn_fn1, Option.some.injEq, List.drop_nil, lenOk_small]|refine drW_intro (by kernel_rfl) ?_|refine gw_intro (fun h => ?_) (fun h => ?_) <;> try simp only [beq_true, beq_false, Bool.not_eq_eq_eq_not, Bool.not_true, Bool.not_false, Bool.not_not, decide_eq_true_eq, decide_eq_false_iff_not, ge_iff_le, gt_iff_lt] at h)
                  refine hx3 _ _ ?_
                  repeat' (first|simp only [*, go_nil, go_seq, go_cond, go_block, go_blk, go_skip, go_exit, go_retc, go_xcode, go_xblk, go_loop, go_region, go_draw, go_ops_nil, go_dops_nil, go_ops, go_dops, okG_some, okB_some, gwD_bool, gwD_undef, cwD_bool, gw_true, gw_false, guardG_none, guardG, opG, opD, isPtr, inB, sval, stake, eats, eaters, get, cval, cval1, croom, St.taken, put_slot, put_room, put_box, put_ctr, put_none, dem_none, dem_slot, dem_box, dem_ctr, dem_room, dem_room1, setBox_slot, setBox_room, setBox_ctr, setBox_box, entry_slot, entry_room, entry_box, entry_ctr, endQ, endR, endV, rvars, rvar, room1, ↓reduceIte, Nat.reduceEqDiff, Nat.reduceLT, Nat.reduceLeDiff, reduceCtorEq, decide_true, decide_false, List.filterMap_cons, List.filterMap_nil, Option.bind_some, Option.map_some, Option.bind_none, Option.map_none, List.getElem?_cons_zero, List.getElem?_cons_succ, List.getD_cons_zero, List.getD_cons_succ, List.contains_cons, List.contains_nil, List.map_cons, List.map_nil, beq_self_eq_true, beq_iff_eq, Bool.or_false, Bool.false_or, Bool.or_true, Bool.true_or, Bool.and_true, Bool.true_and, Nat.reduceBEq, Bool.false_eq_true, dbin, dIntBin, okR, callG, endN, newV, rowS, frzS, frzOf_def, frz_nil, frz_cons, frzD, rowList, rowElem, stepRow, madeRow, isLocal, isAlloc, loadsOwn, ptrAt, beq_true, beq_false, Bool.not_true, Bool.not_false, pureB, leaf, leafN, List.all_cons, List.all_nil, List.nil_append, List.cons_append, List.append_nil, List.take_nil, List.range_zero, List.length_nil, List.length_cons, String.reduceBEq, Bool.true_beq, Bool.false_beq, List.find?_cons, List.find?_nil, dun, List.getElem?_nil, List.take_zero, List.drop_zero, List.take_succ_cons, List.drop_succ_cons, dcells, Nat.zero_add, Nat.reduceAdd, Nat.reduceSub, Nat.reduceMul, stepBox, Bool.and_false, Bool.false_and, and_true, true_and, List.zipWith, Option.getD_some, List.singleton_append, List.map_map, Int.natCast_nonneg, Int.toNat_natCast, and_self, Nat.mul_one, Nat.add_zero, if_true, St.freeze, false_or, or_true, true_or, or_false, szOk_cons, szOk_nil, List.cons.injEq, false_and, and_false, forall_const, List.getElem?_toArray, List.getElem_toArray, dopt, dbound, ge_iff_le, gt_iff_lt, dStrBin, List.take_length, plainR_s, Int.reduceLE, Int.reduceLT, Int.reduceToNat, Int.reduceBEq, Int.reduceBNe, isBar, optIn, allocKeys, takes, ptrArgs, callArgs, ptrIn_nil, ptrIn_int, ptrIn_bool, ptrIn_str, ptrIn_agg, ptrIn_list, ptrIn_fix, ptrIn_con, ptrIn_ptr, ptrIn1, ren, ren1, argOk, argOk1, given, oroom, clearR, vroom, nilR, Option.isSome_none, Option.isSome_some, stepTake, stepPtr, notAgg, ite_self, ty3, dp3, ty4, dp4, ty9, dp9, len9, ty33, dp33, fa33_0, fp33_0, fa33_1, fp33_1, fa33_2, fp33_2, ty35, dp35, fa35_0, fp35_0, fa35_1, fp35_1, ty37, dp37, fa37_0, fp37_0, fa37_1, fp37_1, fa37_2, fp37_2, fa37_3, fp37_3, fa37_4, fp37_4, fa37_5, fp37_5, fa37_6, fp37_6, fa37_7, fp37_7, ty46, dp46, fa46_0, fp46_0, fa46_1, fp46_1, ty30, dp30, fa30_0, fp30_0, ty39, dp39, fa39_0, fp39_0, fa39_1, fp39_1, fa39_2, fp39_2, dp33_4_11, dp35_8_11, ty44, dp44, ia44, len44, ty28, dp28, ia28, len28, ty22, dp22, ia22, len22, frzOps_nil, noEatS, putR3, zr37, zr46, zr30, zrm37, zrm46, zrm30, eq33, eq35, ptrIn_fn0, ptrIn_fn1, Option.some.injEq, List.drop_nil, lenOk_small]|refine drW_intro (by kernel_rfl) ?_|refine gw_intro (fun h => ?_) (fun h => ?_) <;> try simp only [beq_true, beq_false, Bool.not_eq_eq_eq_not, Bool.not_true, Bool.not_false, Bool.not_not, decide_eq_true_eq, decide_eq_false_iff_not, ge_iff_le, gt_iff_lt] at h)
                  have hk2 : k < X.length := HK
                  refine hn2 _ ⟨k + 1, n, hk2, ?_, ?_, ?_, ?_, ?_, ?_, ?_, hnn, HO2⟩ ?_
                  · exact L
                  · exact L
                  · exact L
                  · exact L
                  · exact L
                  · exact L
                  · exact L
                  · have e9 : st'.slot 9 = .int .i64 k := E9
                    exact Z
            · rw [if_neg h2, Option.bind_some] at hO'
              have HO2 := Hd.mk hO'
              clear hO hO' hr2 hn2 hx1 hxl h hr
              repeat' (first|simp only [*, go_nil, go_seq, go_cond, go_block, go_blk, go_skip, go_exit, go_retc, go_xcode, go_xblk, go_loop, go_region, go_draw, go_ops_nil, go_dops_nil, go_ops, go_dops, okG_some, okB_some, gwD_bool, gwD_undef, cwD_bool, gw_true, gw_false, guardG_none, guardG, opG, opD, isPtr, inB, sval, stake, eats, eaters, get, cval, cval1, croom, St.taken, put_slot, put_room, put_box, put_ctr, put_none, dem_none, dem_slot, dem_box, dem_ctr, dem_room, dem_room1, setBox_slot, setBox_room, setBox_ctr, setBox_box, entry_slot, entry_room, entry_box, entry_ctr, endQ, endR, endV, rvars, rvar, room1, ↓reduceIte, Nat.reduceEqDiff, Nat.reduceLT, Nat.reduceLeDiff, reduceCtorEq, decide_true, decide_false, List.filterMap_cons, List.filterMap_nil, Option.bind_some, Option.map_some, Option.bind_none, Option.map_none, List.getElem?_cons_zero, List.getElem?_cons_succ, List.getD_cons_zero, List.getD_cons_succ, List.contains_cons, List.contains_nil, List.map_cons, List.map_nil, beq_self_eq_true, beq_iff_eq, Bool.or_false, Bool.false_or, Bool.or_true, Bool.true_or, Bool.and_true, Bool.true_and, Nat.reduceBEq, Bool.false_eq_true, dbin, dIntBin, okR, callG, endN, newV, rowS, frzS, frzOf_def, frz_nil, frz_cons, frzD, rowList, rowElem, stepRow, madeRow, isLocal, isAlloc, loadsOwn, ptrAt, beq_true, beq_false, Bool.not_true, Bool.not_false, pureB, leaf, leafN, List.all_cons, List.all_nil, List.nil_append, List.cons_append, List.append_nil, List.take_nil, List.range_zero, List.length_nil, List.length_cons, String.reduceBEq, Bool.true_beq, Bool.false_beq, List.find?_cons, List.find?_nil, dun, List.getElem?_nil, List.take_zero, List.drop_zero, List.take_succ_cons, List.drop_succ_cons, dcells, Nat.zero_add, Nat.reduceAdd, Nat.reduceSub, Nat.reduceMul, stepBox, Bool.and_false, Bool.false_and, and_true, true_and, List.zipWith, Option.getD_some, List.singleton_append, List.map_map, Int.natCast_nonneg, Int.toNat_natCast, and_self, Nat.mul_one, Nat.add_zero, if_true, St.freeze, false_or, or_true, true_or, or_false, szOk_cons, szOk_nil, List.cons.injEq, false_and, and_false, forall_const, List.getElem?_toArray, List.getElem_toArray, dopt, dbound, ge_iff_le, gt_iff_lt, dStrBin, List.take_length, plainR_s, Int.reduceLE, Int.reduceLT, Int.reduceToNat, Int.reduceBEq, Int.reduceBNe, isBar, optIn, allocKeys, takes, ptrArgs, callArgs, ptrIn_nil, ptrIn_int, ptrIn_bool, ptrIn_str, ptrIn_agg, ptrIn_list, ptrIn_fix, ptrIn_con, ptrIn_ptr, ptrIn1, ren, ren1, argOk, argOk1, given, oroom, clearR, vroom, nilR, Option.isSome_none, Option.isSome_some, stepTake, stepPtr, notAgg, ite_self, ty3, dp3, ty4, dp4, ty9, dp9, len9, ty33, dp33, fa33_0, fp33_0, fa33_1, fp33_1, fa33_2, fp33_2, ty35, dp35, fa35_0, fp35_0, fa35_1, fp35_1, ty37, dp37, fa37_0, fp37_0, fa37_1, fp37_1, fa37_2, fp37_2, fa37_3, fp37_3, fa37_4, fp37_4, fa37_5, fp37_5, fa37_6, fp37_6, fa37_7, fp37_7, ty46, dp46, fa46_0, fp46_0, fa46_1, fp46_1, ty30, dp30, fa30_0, fp30_0, ty39, dp39, fa39_0, fp39_0, fa39_1, fp39_1, fa39_2, fp39_2, dp33_4_11, dp35_8_11, ty44, dp44, ia44, len44, ty28, dp28, ia28, len28, ty22, dp22, ia22, len22, frzOps_nil, noEatS, putR3, zr37, zr46, zr30, zrm37, zrm46, zrm30, eq33, eq35, ptrIn_fn0, ptrIn_fn1, Option.some.injEq, List.drop_nil, lenOk_small]|refine drW_intro (by kernel_rfl) ?_|refine gw_intro (fun h => ?_) (fun h => ?_) <;> try simp only [beq_true, beq_false, Bool.not_eq_eq_eq_not, Bool.not_true, Bool.not_false, Bool.not_not, decide_eq_true_eq, decide_eq_false_iff_not, ge_iff_le, gt_iff_lt] at h)
              refine hx2 _ _ ?_
              repeat' (first|simp only [*, go_nil, go_seq, go_cond, go_block, go_blk, go_skip, go_exit, go_retc, go_xcode, go_xblk, go_loop, go_region, go_draw, go_ops_nil, go_dops_nil, go_ops, go_dops, okG_some, okB_some, gwD_bool, gwD_undef, cwD_bool, gw_true, gw_false, guardG_none, guardG, opG, opD, isPtr, inB, sval, stake, eats, eaters, get, cval, cval1, croom, St.taken, put_slot, put_room, put_box, put_ctr, put_none, dem_none, dem_slot, dem_box, dem_ctr, dem_room, dem_room1, setBox_slot, setBox_room, setBox_ctr, setBox_box, entry_slot, entry_room, entry_box, entry_ctr, endQ, endR, endV, rvars, rvar, room1, ↓reduceIte, Nat.reduceEqDiff, Nat.reduceLT, Nat.reduceLeDiff, reduceCtorEq, decide_true, decide_false, List.filterMap_cons, List.filterMap_nil, Option.bind_some, Option.map_some, Option.bind_none, Option.map_none, List.getElem?_cons_zero, List.getElem?_cons_succ, List.getD_cons_zero, List.getD_cons_succ, List.contains_cons, List.contains_nil, List.map_cons, List.map_nil, beq_self_eq_true, beq_iff_eq, Bool.or_false, Bool.false_or, Bool.or_true, Bool.true_or, Bool.and_true, Bool.true_and, Nat.reduceBEq, Bool.false_eq_true, dbin, dIntBin, okR, callG, endN, newV, rowS, frzS, frzOf_def, frz_nil, frz_cons, frzD, rowList, rowElem, stepRow, madeRow, isLocal, isAlloc, loadsOwn, ptrAt, beq_true, beq_false, Bool.not_true, Bool.not_false, pureB, leaf, leafN, List.all_cons, List.all_nil, List.nil_append, List.cons_append, List.append_nil, List.take_nil, List.range_zero, List.length_nil, List.length_cons, String.reduceBEq, Bool.true_beq, Bool.false_beq, List.find?_cons, List.find?_nil, dun, List.getElem?_nil, List.take_zero, List.drop_zero, List.take_succ_cons, List.drop_succ_cons, dcells, Nat.zero_add, Nat.reduceAdd, Nat.reduceSub, Nat.reduceMul, stepBox, Bool.and_false, Bool.false_and, and_true, true_and, List.zipWith, Option.getD_some, List.singleton_append, List.map_map, Int.natCast_nonneg, Int.toNat_natCast, and_self, Nat.mul_one, Nat.add_zero, if_true, St.freeze, false_or, or_true, true_or, or_false, szOk_cons, szOk_nil, List.cons.injEq, false_and, and_false, forall_const, List.getElem?_toArray, List.getElem_toArray, dopt, dbound, ge_iff_le, gt_iff_lt, dStrBin, List.take_length, plainR_s, Int.reduceLE, Int.reduceLT, Int.reduceToNat, Int.reduceBEq, Int.reduceBNe, isBar, optIn, allocKeys, takes, ptrArgs, callArgs, ptrIn_nil, ptrIn_int, ptrIn_bool, ptrIn_str, ptrIn_agg, ptrIn_list, ptrIn_fix, ptrIn_con, ptrIn_ptr, ptrIn1, ren, ren1, argOk, argOk1, given, oroom, clearR, vroom, nilR, Option.isSome_none, Option.isSome_some, stepTake, stepPtr, notAgg, ite_self, ty3, dp3, ty4, dp4, ty9, dp9, len9, ty33, dp33, fa33_0, fp33_0, fa33_1, fp33_1, fa33_2, fp33_2, ty35, dp35, fa35_0, fp35_0, fa35_1, fp35_1, ty37, dp37, fa37_0, fp37_0, fa37_1, fp37_1, fa37_2, fp37_2, fa37_3, fp37_3, fa37_4, fp37_4, fa37_5, fp37_5, fa37_6, fp37_6, fa37_7, fp37_7, ty46, dp46, fa46_0, fp46_0, fa46_1, fp46_1, ty30, dp30, fa30_0, fp30_0, ty39, dp39, fa39_0, fp39_0, fa39_1, fp39_1, fa39_2, fp39_2, dp33_4_11, dp35_8_11, ty44, dp44, ia44, len44, ty28, dp28, ia28, len28, ty22, dp22, ia22, len22, frzOps_nil, noEatS, putR3, zr37, zr46, zr30, zrm37, zrm46, zrm30, eq33, eq35, ptrIn_fn0, ptrIn_fn1, Option.some.injEq, List.drop_nil, lenOk_small]|refine drW_intro (by kernel_rfl) ?_|refine gw_intro (fun h => ?_) (fun h => ?_) <;> try simp only [beq_true, beq_false, Bool.not_eq_eq_eq_not, Bool.not_true, Bool.not_false, Bool.not_not, decide_eq_true_eq, decide_eq_false_iff_not, ge_iff_le, gt_iff_lt] at h)
              have hi2 : i < l.length := HI
              refine hn _ ⟨i + 1, n, hi2, ?_, ?_, ?_, ?_, ?_, ?_, hnn, HO2⟩ ?_
              · exact L
              · exact L
              · exact L
              · exact L
              · exact L
              · exact L
              · have g8 : st.slot 8 = .int .i64 i := G8
                exact Z
          · have g10 : ¬ (k : Int) < X.length := by omega
            rw [List.drop_eq_nil_of_le (by omega), cntP, Option.bind_some] at hO'
            have HO2 := Hd.mk hO'
            clear hO hO' hr2 hn2 hxl h hr
            repeat' (first|simp only [*, go_nil, go_seq, go_cond, go_block, go_blk, go_skip, go_exit, go_retc, go_xcode, go_xblk, go_loop, go_region, go_draw, go_ops_nil, go_dops_nil, go_ops, go_dops, okG_some, okB_some, gwD_bool, gwD_undef, cwD_bool, gw_true, gw_false, guardG_none, guardG, opG, opD, isPtr, inB, sval, stake, eats, eaters, get, cval, cval1, croom, St.taken, put_slot, put_room, put_box, put_ctr, put_none, dem_none, dem_slot, dem_box, dem_ctr, dem_room, dem_room1, setBox_slot, setBox_room, setBox_ctr, setBox_box, entry_slot, entry_room, entry_box, entry_ctr, endQ, endR, endV, rvars, rvar, room1, ↓reduceIte, Nat.reduceEqDiff, Nat.reduceLT, Nat.reduceLeDiff, reduceCtorEq, decide_true, decide_false, List.filterMap_cons, List.filterMap_nil, Option.bind_some, Option.map_some, Option.bind_none, Option.map_none, List.getElem?_cons_zero, List.getElem?_cons_succ, List.getD_cons_zero, List.getD_cons_succ, List.contains_cons, List.contains_nil, List.map_cons, List.map_nil, beq_self_eq_true, beq_iff_eq, Bool.or_false, Bool.false_or, Bool.or_true, Bool.true_or, Bool.and_true, Bool.true_and, Nat.reduceBEq, Bool.false_eq_true, dbin, dIntBin, okR, callG, endN, newV, rowS, frzS, frzOf_def, frz_nil, frz_cons, frzD, rowList, rowElem, stepRow, madeRow, isLocal, isAlloc, loadsOwn, ptrAt, beq_true, beq_false, Bool.not_true, Bool.not_false, pureB, leaf, leafN, List.all_cons, List.all_nil, List.nil_append, List.cons_append, List.append_nil, List.take_nil, List.range_zero, List.length_nil, List.length_cons, String.reduceBEq, Bool.true_beq, Bool.false_beq, List.find?_cons, List.find?_nil, dun, List.getElem?_nil, List.take_zero, List.drop_zero, List.take_succ_cons, List.drop_succ_cons, dcells, Nat.zero_add, Nat.reduceAdd, Nat.reduceSub, Nat.reduceMul, stepBox, Bool.and_false, Bool.false_and, and_true, true_and, List.zipWith, Option.getD_some, List.singleton_append, List.map_map, Int.natCast_nonneg, Int.toNat_natCast, and_self, Nat.mul_one, Nat.add_zero, if_true, St.freeze, false_or, or_true, true_or, or_false, szOk_cons, szOk_nil, List.cons.injEq, false_and, and_false, forall_const, List.getElem?_toArray, List.getElem_toArray, dopt, dbound, ge_iff_le, gt_iff_lt, dStrBin, List.take_length, plainR_s, Int.reduceLE, Int.reduceLT, Int.reduceToNat, Int.reduceBEq, Int.reduceBNe, isBar, optIn, allocKeys, takes, ptrArgs, callArgs, ptrIn_nil, ptrIn_int, ptrIn_bool, ptrIn_str, ptrIn_agg, ptrIn_list, ptrIn_fix, ptrIn_con, ptrIn_ptr, ptrIn1, ren, ren1, argOk, argOk1, given, oroom, clearR, vroom, nilR, Option.isSome_none, Option.isSome_some, stepTake, stepPtr, notAgg, ite_self, ty3, dp3, ty4, dp4, ty9, dp9, len9, ty33, dp33, fa33_0, fp33_0, fa33_1, fp33_1, fa33_2, fp33_2, ty35, dp35, fa35_0, fp35_0, fa35_1, fp35_1, ty37, dp37, fa37_0, fp37_0, fa37_1, fp37_1, fa37_2, fp37_2, fa37_3, fp37_3, fa37_4, fp37_4, fa37_5, fp37_5, fa37_6, fp37_6, fa37_7, fp37_7, ty46, dp46, fa46_0, fp46_0, fa46_1, fp46_1, ty30, dp30, fa30_0, fp30_0, ty39, dp39, fa39_0, fp39_0, fa39_1, fp39_1, fa39_2, fp39_2, dp33_4_11, dp35_8_11, ty44, dp44, ia44, len44, ty28, dp28, ia28, len28, ty22, dp22, ia22, len22, frzOps_nil, noEatS, putR3, zr37, zr46, zr30, zrm37, zrm46, zrm30, eq33, eq35, ptrIn_fn0, ptrIn_fn1, Option.some.injEq, List.drop_nil, lenOk_small]|refine drW_intro (by kernel_rfl) ?_|refine gw_intro (fun h => ?_) (fun h => ?_) <;> try simp only [beq_true, beq_false, Bool.not_eq_eq_eq_not, Bool.not_true, Bool.not_false, Bool.not_not, decide_eq_true_eq, decide_eq_false_iff_not, ge_iff_le, gt_iff_lt] at h)
            refine hx2 _ _ ?_
            repeat' (first|simp only [*, go_nil, go_seq, go_cond, go_block, go_blk, go_skip, go_exit, go_retc, go_xcode, go_xblk, go_loop, go_region, go_draw, go_ops_nil, go_dops_nil, go_ops, go_dops, okG_some, okB_some, gwD_bool, gwD_undef, cwD_bool, gw_true, gw_false, guardG_none, guardG, opG, opD, isPtr, inB, sval, stake, eats, eaters, get, cval, cval1, croom, St.taken, put_slot, put_room, put_box, put_ctr, put_none, dem_none, dem_slot, dem_box, dem_ctr, dem_room, dem_room1, setBox_slot, setBox_room, setBox_ctr, setBox_box, entry_slot, entry_room, entry_box, entry_ctr, endQ, endR, endV, rvars, rvar, room1, ↓reduceIte, Nat.reduceEqDiff, Nat.reduceLT, Nat.reduceLeDiff, reduceCtorEq, decide_true, decide_false, List.filterMap_cons, List.filterMap_nil, Option.bind_some, Option.map_some, Option.bind_none, Option.map_none, List.getElem?_cons_zero, List.getElem?_cons_succ, List.getD_cons_zero, List.getD_cons_succ, List.contains_cons, List.contains_nil, List.map_cons, List.map_nil, beq_self_eq_true, beq_iff_eq, Bool.or_false, Bool.false_or, Bool.or_true, Bool.true_or, Bool.and_true, Bool.true_and, Nat.reduceBEq, Bool.false_eq_true, dbin, dIntBin, okR, callG, endN, newV, rowS, frzS, frzOf_def, frz_nil, frz_cons, frzD, rowList, rowElem, stepRow, madeRow, isLocal, isAlloc, loadsOwn, ptrAt, beq_true, beq_false, Bool.not_true, Bool.not_false, pureB, leaf, leafN, List.all_cons, List.all_nil, List.nil_append, List.cons_append, List.append_nil, List.take_nil, List.range_zero, List.length_nil, List.length_cons, String.reduceBEq, Bool.true_beq, Bool.false_beq, List.find?_cons, List.find?_nil, dun, List.getElem?_nil, List.take_zero, List.drop_zero, List.take_succ_cons, List.drop_succ_cons, dcells, Nat.zero_add, Nat.reduceAdd, Nat.reduceSub, Nat.reduceMul, stepBox, Bool.and_false, Bool.false_and, and_true, true_and, List.zipWith, Option.getD_some, List.singleton_append, List.map_map, Int.natCast_nonneg, Int.toNat_natCast, and_self, Nat.mul_one, Nat.add_zero, if_true, St.freeze, false_or, or_true, true_or, or_false, szOk_cons, szOk_nil, List.cons.injEq, false_and, and_false, forall_const, List.getElem?_toArray, List.getElem_toArray, dopt, dbound, ge_iff_le, gt_iff_lt, dStrBin, List.take_length, plainR_s, Int.reduceLE, Int.reduceLT, Int.reduceToNat, Int.reduceBEq, Int.reduceBNe, isBar, optIn, allocKeys, takes, ptrArgs, callArgs, ptrIn_nil, ptrIn_int, ptrIn_bool, ptrIn_str, ptrIn_agg, ptrIn_list, ptrIn_fix, ptrIn_con, ptrIn_ptr, ptrIn1, ren, ren1, argOk, argOk1, given, oroom, clearR, vroom, nilR, Option.isSome_none, Option.isSome_some, stepTake, stepPtr, notAgg, ite_self, ty3, dp3, ty4, dp4, ty9, dp9, len9, ty33, dp33, fa33_0, fp33_0, fa33_1, fp33_1, fa33_2, fp33_2, ty35, dp35, fa35_0, fp35_0, fa35_1, fp35_1, ty37, dp37, fa37_0, fp37_0, fa37_1, fp37_1, fa37_2, fp37_2, fa37_3, fp37_3, fa37_4, fp37_4, fa37_5, fp37_5, fa37_6, fp37_6, fa37_7, fp37_7, ty46, dp46, fa46_0, fp46_0, fa46_1, fp46_1, ty30, dp30, fa30_0, fp30_0, ty39, dp39, fa39_0, fp39_0, fa39_1, fp39_1, fa39_2, fp39_2, dp33_4_11, dp35_8_11, ty44, dp44, ia44, len44, ty28, dp28, ia28, len28, ty22, dp22, ia22, len22, frzOps_nil, noEatS, putR3, zr37, zr46, zr30, zrm37, zrm46, zrm30, eq33, eq35, ptrIn_fn0, ptrIn_fn1, Option.some.injEq, List.drop_nil, lenOk_small]|refine drW_intro (by kernel_rfl) ?_|refine gw_intro (fun h => ?_) (fun h => ?_) <;> try simp only [beq_true, beq_false, Bool.not_eq_eq_eq_not, Bool.not_true, Bool.not_false, Bool.not_not, decide_eq_true_eq, decide_eq_false_iff_not, ge_iff_le, gt_iff_lt] at h)
            have hi2 : i < l.length := HI
            refine hn _ ⟨i + 1, n, hi2, ?_, ?_, ?_, ?_, ?_, ?_, hnn, HO2⟩ ?_
            · exact L
            · exact L
            · exact L
            · exact L
            · exact L
            · exact L
            · have g8 : st.slot 8 = .int .i64 i := G8
              exact Z
      · rw [if_neg h2] at hO'
        have hO2 : R = n := hO'
        subst hO2
        clear hO hO' hn hr hl hR hc1 h hw
        repeat' (first|simp only [*, go_nil, go_seq, go_cond, go_block, go_blk, go_skip, go_exit, go_retc, go_xcode, go_xblk, go_loop, go_region, go_draw, go_ops_nil, go_dops_nil, go_ops, go_dops, okG_some, okB_some, gwD_bool, gwD_undef, cwD_bool, gw_true, gw_false, guardG_none, guardG, opG, opD, isPtr, inB, sval, stake, eats, eaters, get, cval, cval1, croom, St.taken, put_slot, put_room, put_box, put_ctr, put_none, dem_none, dem_slot, dem_box, dem_ctr, dem_room, dem_room1, setBox_slot, setBox_room, setBox_ctr, setBox_box, entry_slot, entry_room, entry_box, entry_ctr, endQ, endR, endV, rvars, rvar, room1, ↓reduceIte, Nat.reduceEqDiff, Nat.reduceLT, Nat.reduceLeDiff, reduceCtorEq, decide_true, decide_false, List.filterMap_cons, List.filterMap_nil, Option.bind_some, Option.map_some, Option.bind_none, Option.map_none, List.getElem?_cons_zero, List.getElem?_cons_succ, List.getD_cons_zero, List.getD_cons_succ, List.contains_cons, List.contains_nil, List.map_cons, List.map_nil, beq_self_eq_true, beq_iff_eq, Bool.or_false, Bool.false_or, Bool.or_true, Bool.true_or, Bool.and_true, Bool.true_and, Nat.reduceBEq, Bool.false_eq_true, dbin, dIntBin, okR, callG, endN, newV, rowS, frzS, frzOf_def, frz_nil, frz_cons, frzD, rowList, rowElem, stepRow, madeRow, isLocal, isAlloc, loadsOwn, ptrAt, beq_true, beq_false, Bool.not_true, Bool.not_false, pureB, leaf, leafN, List.all_cons, List.all_nil, List.nil_append, List.cons_append, List.append_nil, List.take_nil, List.range_zero, List.length_nil, List.length_cons, String.reduceBEq, Bool.true_beq, Bool.false_beq, List.find?_cons, List.find?_nil, dun, List.getElem?_nil, List.take_zero, List.drop_zero, List.take_succ_cons, List.drop_succ_cons, dcells, Nat.zero_add, Nat.reduceAdd, Nat.reduceSub, Nat.reduceMul, stepBox, Bool.and_false, Bool.false_and, and_true, true_and, List.zipWith, Option.getD_some, List.singleton_append, List.map_map, Int.natCast_nonneg, Int.toNat_natCast, and_self, Nat.mul_one, Nat.add_zero, if_true, St.freeze, false_or, or_true, true_or, or_false, szOk_cons, szOk_nil, List.cons.injEq, false_and, and_false, forall_const, List.getElem?_toArray, List.getElem_toArray, dopt, dbound, ge_iff_le, gt_iff_lt, dStrBin, List.take_length, plainR_s, Int.reduceLE, Int.reduceLT, Int.reduceToNat, Int.reduceBEq, Int.reduceBNe, isBar, optIn, allocKeys, takes, ptrArgs, callArgs, ptrIn_nil, ptrIn_int, ptrIn_bool, ptrIn_str, ptrIn_agg, ptrIn_list, ptrIn_fix, ptrIn_con, ptrIn_ptr, ptrIn1, ren, ren1, argOk, argOk1, given, oroom, clearR, vroom, nilR, Option.isSome_none, Option.isSome_some, stepTake, stepPtr, notAgg, ite_self, ty3, dp3, ty4, dp4, ty9, dp9, len9, ty33, dp33, fa33_0, fp33_0, fa33_1, fp33_1, fa33_2, fp33_2, ty35, dp35, fa35_0, fp35_0, fa35_1, fp35_1, ty37, dp37, fa37_0, fp37_0, fa37_1, fp37_1, fa37_2, fp37_2, fa37_3, fp37_3, fa37_4, fp37_4, fa37_5, fp37_5, fa37_6, fp37_6, fa37_7, fp37_7, ty46, dp46, fa46_0, fp46_0, fa46_1, fp46_1, ty30, dp30, fa30_0, fp30_0, ty39, dp39, fa39_0, fp39_0, fa39_1, fp39_1, fa39_2, fp39_2, dp33_4_11, dp35_8_11, ty44, dp44, ia44, len44, ty28, dp28, ia28, len28, ty22, dp22, ia22, len22, frzOps_nil, noEatS, putR3, zr37, zr46, zr30, zrm37, zrm46, zrm30, eq33, eq35, ptrIn_fn0, ptrIn_fn1, Option.some.injEq, List.drop_nil, lenOk_small]|refine drW_intro (by kernel_rfl) ?_|refine gw_intro (fun h => ?_) (fun h => ?_) <;> try simp only [beq_true, beq_false, Bool.not_eq_eq_eq_not, Bool.not_true, Bool.not_false, Bool.not_not, decide_eq_true_eq, decide_eq_false_iff_not, ge_iff_le, gt_iff_lt] at h)
        refine hx _ _ ?_
        repeat' (first|simp only [*, go_nil, go_seq, go_cond, go_block, go_blk, go_skip, go_exit, go_retc, go_xcode, go_xblk, go_loop, go_region, go_draw, go_ops_nil, go_dops_nil, go_ops, go_dops, okG_some, okB_some, gwD_bool, gwD_undef, cwD_bool, gw_true, gw_false, guardG_none, guardG, opG, opD, isPtr, inB, sval, stake, eats, eaters, get, cval, cval1, croom, St.taken, put_slot, put_room, put_box, put_ctr, put_none, dem_none, dem_slot, dem_box, dem_ctr, dem_room, dem_room1, setBox_slot, setBox_room, setBox_ctr, setBox_box, entry_slot, entry_room, entry_box, entry_ctr, endQ, endR, endV, rvars, rvar, room1, ↓reduceIte, Nat.reduceEqDiff, Nat.reduceLT, Nat.reduceLeDiff, reduceCtorEq, decide_true, decide_false, List.filterMap_cons, List.filterMap_nil, Option.bind_some, Option.map_some, Option.bind_none, Option.map_none, List.getElem?_cons_zero, List.getElem?_cons_succ, List.getD_cons_zero, List.getD_cons_succ, List.contains_cons, List.contains_nil, List.map_cons, List.map_nil, beq_self_eq_true, beq_iff_eq, Bool.or_false, Bool.false_or, Bool.or_true, Bool.true_or, Bool.and_true, Bool.true_and, Nat.reduceBEq, Bool.false_eq_true, dbin, dIntBin, okR, callG, endN, newV, rowS, frzS, frzOf_def, frz_nil, frz_cons, frzD, rowList, rowElem, stepRow, madeRow, isLocal, isAlloc, loadsOwn, ptrAt, beq_true, beq_false, Bool.not_true, Bool.not_false, pureB, leaf, leafN, List.all_cons, List.all_nil, List.nil_append, List.cons_append, List.append_nil, List.take_nil, List.range_zero, List.length_nil, List.length_cons, String.reduceBEq, Bool.true_beq, Bool.false_beq, List.find?_cons, List.find?_nil, dun, List.getElem?_nil, List.take_zero, List.drop_zero, List.take_succ_cons, List.drop_succ_cons, dcells, Nat.zero_add, Nat.reduceAdd, Nat.reduceSub, Nat.reduceMul, stepBox, Bool.and_false, Bool.false_and, and_true, true_and, List.zipWith, Option.getD_some, List.singleton_append, List.map_map, Int.natCast_nonneg, Int.toNat_natCast, and_self, Nat.mul_one, Nat.add_zero, if_true, St.freeze, false_or, or_true, true_or, or_false, szOk_cons, szOk_nil, List.cons.injEq, false_and, and_false, forall_const, List.getElem?_toArray, List.getElem_toArray, dopt, dbound, ge_iff_le, gt_iff_lt, dStrBin, List.take_length, plainR_s, Int.reduceLE, Int.reduceLT, Int.reduceToNat, Int.reduceBEq, Int.reduceBNe, isBar, optIn, allocKeys, takes, ptrArgs, callArgs, ptrIn_nil, ptrIn_int, ptrIn_bool, ptrIn_str, ptrIn_agg, ptrIn_list, ptrIn_fix, ptrIn_con, ptrIn_ptr, ptrIn1, ren, ren1, argOk, argOk1, given, oroom, clearR, vroom, nilR, Option.isSome_none, Option.isSome_some, stepTake, stepPtr, notAgg, ite_self, ty3, dp3, ty4, dp4, ty9, dp9, len9, ty33, dp33, fa33_0, fp33_0, fa33_1, fp33_1, fa33_2, fp33_2, ty35, dp35, fa35_0, fp35_0, fa35_1, fp35_1, ty37, dp37, fa37_0, fp37_0, fa37_1, fp37_1, fa37_2, fp37_2, fa37_3, fp37_3, fa37_4, fp37_4, fa37_5, fp37_5, fa37_6, fp37_6, fa37_7, fp37_7, ty46, dp46, fa46_0, fp46_0, fa46_1, fp46_1, ty30, dp30, fa30_0, fp30_0, ty39, dp39, fa39_0, fp39_0, fa39_1, fp39_1, fa39_2, fp39_2, dp33_4_11, dp35_8_11, ty44, dp44, ia44, len44, ty28, dp28, ia28, len28, ty22, dp22, ia22, len22, frzOps_nil, noEatS, putR3, zr37, zr46, zr30, zrm37, zrm46, zrm30, eq33, eq35, ptrIn_fn0, ptrIn_fn1, Option.some.injEq, List.drop_nil, lenOk_small]|refine drW_intro (by kernel_rfl) ?_|refine gw_intro (fun h => ?_) (fun h => ?_) <;> try simp only [beq_true, beq_false, Bool.not_eq_eq_eq_not, Bool.not_true, Bool.not_false, Bool.not_not, decide_eq_true_eq, decide_eq_false_iff_not, ge_iff_le, gt_iff_lt] at h)
    · have g9 : ¬ (i : Int) < l.length := by omega
      rw [List.drop_eq_nil_of_le (by omega), cntC] at hO'
      have hO2 : R = n := hO'
      subst hO2
      clear hO hO' hn hr hl hR h
      repeat' (first|simp only [*, go_nil, go_seq, go_cond, go_block, go_blk, go_skip, go_exit, go_retc, go_xcode, go_xblk, go_loop, go_region, go_draw, go_ops_nil, go_dops_nil, go_ops, go_dops, okG_some, okB_some, gwD_bool, gwD_undef, cwD_bool, gw_true, gw_false, guardG_none, guardG, opG, opD, isPtr, inB, sval, stake, eats, eaters, get, cval, cval1, croom, St.taken, put_slot, put_room, put_box, put_ctr, put_none, dem_none, dem_slot, dem_box, dem_ctr, dem_room, dem_room1, setBox_slot, setBox_room, setBox_ctr, setBox_box, entry_slot, entry_room, entry_box, entry_ctr, endQ, endR, endV, rvars, rvar, room1, ↓reduceIte, Nat.reduceEqDiff, Nat.reduceLT, Nat.reduceLeDiff, reduceCtorEq, decide_true, decide_false, List.filterMap_cons, List.filterMap_nil, Option.bind_some, Option.map_some, Option.bind_none, Option.map_none, List.getElem?_cons_zero, List.getElem?_cons_succ, List.getD_cons_zero, List.getD_cons_succ, List.contains_cons, List.contains_nil, List.map_cons, List.map_nil, beq_self_eq_true, beq_iff_eq, Bool.or_false, Bool.false_or, Bool.or_true, Bool.true_or, Bool.and_true, Bool.true_and, Nat.reduceBEq, Bool.false_eq_true, dbin, dIntBin, okR, callG, endN, newV, rowS, frzS, frzOf_def, frz_nil, frz_cons, frzD, rowList, rowElem, stepRow, madeRow, isLocal, isAlloc, loadsOwn, ptrAt, beq_true, beq_false, Bool.not_true, Bool.not_false, pureB, leaf, leafN, List.all_cons, List.all_nil, List.nil_append, List.cons_append, List.append_nil, List.take_nil, List.range_zero, List.length_nil, List.length_cons, String.reduceBEq, Bool.true_beq, Bool.false_beq, List.find?_cons, List.find?_nil, dun, List.getElem?_nil, List.take_zero, List.drop_zero, List.take_succ_cons, List.drop_succ_cons, dcells, Nat.zero_add, Nat.reduceAdd, Nat.reduceSub, Nat.reduceMul, stepBox, Bool.and_false, Bool.false_and, and_true, true_and, List.zipWith, Option.getD_some, List.singleton_append, List.map_map, Int.natCast_nonneg, Int.toNat_natCast, and_self, Nat.mul_one, Nat.add_zero, if_true, St.freeze, false_or, or_true, true_or, or_false, szOk_cons, szOk_nil, List.cons.injEq, false_and, and_false, forall_const, List.getElem?_toArray, List.getElem_toArray, dopt, dbound, ge_iff_le, gt_iff_lt, dStrBin, List.take_length, plainR_s, Int.reduceLE, Int.reduceLT, Int.reduceToNat, Int.reduceBEq, Int.reduceBNe, isBar, optIn, allocKeys, takes, ptrArgs, callArgs, ptrIn_nil, ptrIn_int, ptrIn_bool, ptrIn_str, ptrIn_agg, ptrIn_list, ptrIn_fix, ptrIn_con, ptrIn_ptr, ptrIn1, ren, ren1, argOk, argOk1, given, oroom, clearR, vroom, nilR, Option.isSome_none, Option.isSome_some, stepTake, stepPtr, notAgg, ite_self, ty3, dp3, ty4, dp4, ty9, dp9, len9, ty33, dp33, fa33_0, fp33_0, fa33_1, fp33_1, fa33_2, fp33_2, ty35, dp35, fa35_0, fp35_0, fa35_1, fp35_1, ty37, dp37, fa37_0, fp37_0, fa37_1, fp37_1, fa37_2, fp37_2, fa37_3, fp37_3, fa37_4, fp37_4, fa37_5, fp37_5, fa37_6, fp37_6, fa37_7, fp37_7, ty46, dp46, fa46_0, fp46_0, fa46_1, fp46_1, ty30, dp30, fa30_0, fp30_0, ty39, dp39, fa39_0, fp39_0, fa39_1, fp39_1, fa39_2, fp39_2, dp33_4_11, dp35_8_11, ty44, dp44, ia44, len44, ty28, dp28, ia28, len28, ty22, dp22, ia22, len22, frzOps_nil, noEatS, putR3, zr37, zr46, zr30, zrm37, zrm46, zrm30, eq33, eq35, ptrIn_fn0, ptrIn_fn1, Option.some.injEq, List.drop_nil, lenOk_small]|refine drW_intro (by kernel_rfl) ?_|refine gw_intro (fun h => ?_) (fun h => ?_) <;> try simp only [beq_true, beq_false, Bool.not_eq_eq_eq_not, Bool.not_true, Bool.not_false, Bool.not_not, decide_eq_true_eq, decide_eq_false_iff_not, ge_iff_le, gt_iff_lt] at h)
      refine hx _ _ ?_
      repeat' (first|simp only [*, go_nil, go_seq, go_cond, go_block, go_blk, go_skip, go_exit, go_retc, go_xcode, go_xblk, go_loop, go_region, go_draw, go_ops_nil, go_dops_nil, go_ops, go_dops, okG_some, okB_some, gwD_bool, gwD_undef, cwD_bool, gw_true, gw_false, guardG_none, guardG, opG, opD, isPtr, inB, sval, stake, eats, eaters, get, cval, cval1, croom, St.taken, put_slot, put_room, put_box, put_ctr, put_none, dem_none, dem_slot, dem_box, dem_ctr, dem_room, dem_room1, setBox_slot, setBox_room, setBox_ctr, setBox_box, entry_slot, entry_room, entry_box, entry_ctr, endQ, endR, endV, rvars, rvar, room1, ↓reduceIte, Nat.reduceEqDiff, Nat.reduceLT, Nat.reduceLeDiff, reduceCtorEq, decide_true, decide_false, List.filterMap_cons, List.filterMap_nil, Option.bind_some, Option.map_some, Option.bind_none, Option.map_none, List.getElem?_cons_zero, List.getElem?_cons_succ, List.getD_cons_zero, List.getD_cons_succ, List.contains_cons, List.contains_nil, List.map_cons, List.map_nil, beq_self_eq_true, beq_iff_eq, Bool.or_false, Bool.false_or, Bool.or_true, Bool.true_or, Bool.and_true, Bool.true_and, Nat.reduceBEq, Bool.false_eq_true, dbin, dIntBin, okR, callG, endN, newV, rowS, frzS, frzOf_def, frz_nil, frz_cons, frzD, rowList, rowElem, stepRow, madeRow, isLocal, isAlloc, loadsOwn, ptrAt, beq_true, beq_false, Bool.not_true, Bool.not_false, pureB, leaf, leafN, List.all_cons, List.all_nil, List.nil_append, List.cons_append, List.append_nil, List.take_nil, List.range_zero, List.length_nil, List.length_cons, String.reduceBEq, Bool.true_beq, Bool.false_beq, List.find?_cons, List.find?_nil, dun, List.getElem?_nil, List.take_zero, List.drop_zero, List.take_succ_cons, List.drop_succ_cons, dcells, Nat.zero_add, Nat.reduceAdd, Nat.reduceSub, Nat.reduceMul, stepBox, Bool.and_false, Bool.false_and, and_true, true_and, List.zipWith, Option.getD_some, List.singleton_append, List.map_map, Int.natCast_nonneg, Int.toNat_natCast, and_self, Nat.mul_one, Nat.add_zero, if_true, St.freeze, false_or, or_true, true_or, or_false, szOk_cons, szOk_nil, List.cons.injEq, false_and, and_false, forall_const, List.getElem?_toArray, List.getElem_toArray, dopt, dbound, ge_iff_le, gt_iff_lt, dStrBin, List.take_length, plainR_s, Int.reduceLE, Int.reduceLT, Int.reduceToNat, Int.reduceBEq, Int.reduceBNe, isBar, optIn, allocKeys, takes, ptrArgs, callArgs, ptrIn_nil, ptrIn_int, ptrIn_bool, ptrIn_str, ptrIn_agg, ptrIn_list, ptrIn_fix, ptrIn_con, ptrIn_ptr, ptrIn1, ren, ren1, argOk, argOk1, given, oroom, clearR, vroom, nilR, Option.isSome_none, Option.isSome_some, stepTake, stepPtr, notAgg, ite_self, ty3, dp3, ty4, dp4, ty9, dp9, len9, ty33, dp33, fa33_0, fp33_0, fa33_1, fp33_1, fa33_2, fp33_2, ty35, dp35, fa35_0, fp35_0, fa35_1, fp35_1, ty37, dp37, fa37_0, fp37_0, fa37_1, fp37_1, fa37_2, fp37_2, fa37_3, fp37_3, fa37_4, fp37_4, fa37_5, fp37_5, fa37_6, fp37_6, fa37_7, fp37_7, ty46, dp46, fa46_0, fp46_0, fa46_1, fp46_1, ty30, dp30, fa30_0, fp30_0, ty39, dp39, fa39_0, fp39_0, fa39_1, fp39_1, fa39_2, fp39_2, dp33_4_11, dp35_8_11, ty44, dp44, ia44, len44, ty28, dp28, ia28, len28, ty22, dp22, ia22, len22, frzOps_nil, noEatS, putR3, zr37, zr46, zr30, zrm37, zrm46, zrm30, eq33, eq35, ptrIn_fn0, ptrIn_fn1, Option.some.injEq, List.drop_nil, lenOk_small]|refine drW_intro (by kernel_rfl) ?_|refine gw_intro (fun h => ?_) (fun h => ?_) <;> try simp only [beq_true, beq_false, Bool.not_eq_eq_eq_not, Bool.not_true, Bool.not_false, Bool.not_not, decide_eq_true_eq, decide_eq_false_iff_not, ge_iff_le, gt_iff_lt] at h)
end Go.Av
namespace Go.Av
open Go.Proofs
section
variable {C : List D → Int} {bad : D → Bool} {most B M : Int}
theorem cntX_bd : ∀ (x : List D) (n r : Int), (∀ s ∈ x, bad s = false → C (sf s).of_ ≤ B) → cntX C bad most x n = some r → r ≤ max n (most + 1 + B)
  | [], n, r, _, h => by simp only [cntX, Option.some.injEq] at h; omega
  | s :: x, n, r, hC, h => by
    rw [cntX] at h
    split at h
    · split at h
      · cases h
      · rename_i h1 h2
        have h3 := hC s (List.mem_cons_self ..) (by simpa using h2)
        have h4 := cntX_bd x _ r (fun s hs => hC s (List.mem_cons_of_mem _ hs)) h
        omega
    · simp only [Option.some.injEq] at h; omega
theorem cntP_bd : ∀ (x : List D) (n r : Int), (∀ c ∈ x, ∀ s ∈ cpL c, bad s = false → C (sf s).of_ ≤ B) → cntP C bad most x n = some r → r ≤ max n (most + 1 + B)
  | [], n, r, _, h => by simp only [cntP, Option.some.injEq] at h; omega
  | c :: x, n, r, hC, h => by
    rw [cntP] at h
    split at h
    · cases e : cntX C bad most (cpL c) n with
      | none => rw [e] at h; cases h
      | some q =>
        rw [e] at h
        have h1 := cntX_bd _ _ _ (hC c (List.mem_cons_self ..)) e
        have h2 := cntP_bd x q r (fun c hc => hC c (List.mem_cons_of_mem _ hc)) h
        omega
    · simp only [Option.some.injEq] at h; omega
theorem cntC_bd : ∀ (x : List D) (n r : Int), (∀ d ∈ x, ((cxL d).length : Int) ≤ M) → (∀ d ∈ x, ∀ c ∈ cxL d, ∀ s ∈ cpL c, bad s = false → C (sf s).of_ ≤ B) → cntC C bad most x n = some r → r ≤ max n (max (most + M) (most + 1 + B))
  | [], n, r, _, _, h => by simp only [cntC, Option.some.injEq] at h; omega
  | d :: x, n, r, hM, hC, h => by
    rw [cntC] at h
    split at h
    · cases e : cntP C bad most (cxL d) (n + (cxL d).length) with
      | none => rw [e] at h; cases h
      | some q =>
        rw [e] at h
        have h0 := hM d (List.mem_cons_self ..)
        have h1 := cntP_bd _ _ _ (hC d (List.mem_cons_self ..)) e
        have h2 := cntC_bd x q r (fun c hc => hM c (List.mem_cons_of_mem _ hc)) (fun c hc => hC c (List.mem_cons_of_mem _ hc)) h
        omega
    · simp only [Option.some.injEq] at h; omega
end
theorem cnt_bd {most : Int} (hm : 0 ≤ most) {m : Nat} : ∀ (f : Nat) (d : Nat) (l : List D), lsOk m (smOk m f) l = true → cnt most (f + 1) l d ≤ m + (most + 2) * (((41 - d : Nat) : Int) + 1)
  | f, d, l, h => by
    unfold cnt
    obtain ⟨h1, h2⟩ := lsOk_mem h
    have hp : 0 ≤ (most + 2) * ((41 - d : Nat) : Int) := Int.mul_nonneg (by omega) (by omega)
    have he : (most + 2) * (((41 - d : Nat) : Int) + 1) = (most + 2) * ((41 - d : Nat) : Int) + (most + 2) := by rw [Int.mul_add, Int.mul_one]
    cases e : cntC (fun of_ => cnt most f of_ ((d : Int) + 1)) (badS d) most l l.length with
    | none => simp only [Option.getD_none]; omega
    | some r =>
      simp only [Option.getD_some]
      have key := cntC_bd (B := m + (most + 2) * ((41 - d : Nat) : Int)) (M := m) l l.length r (fun c hc => by obtain ⟨l1, rfl, g, _⟩ := cxOk_inv (h2 c hc); show ((l1.length : Nat) : Int) ≤ m; omega) (fun c hc x hx s hs hb => ?_) e
      · omega
      · have hd : d ≤ 40 := by
          unfold badS at hb
          simp only [Bool.or_eq_false_iff, decide_eq_false_iff_not] at hb
          omega
        have h3 := lsOk_s h c hc x hx s hs
        cases f with
        | zero => simp [smOk] at h3
        | succ f =>
          obtain ⟨_, _, _, _, h4⟩ := smOk_inv h3
          have h5 := cnt_bd hm f (d + 1) (sf s).of_ h4
          have h6 : (((41 - (d + 1) : Nat) : Int) + 1) = ((41 - d : Nat) : Int) := by omega
          rw [h6] at h5
          exact h5
theorem count_L {ext : Call} (hx0 : ∀ args, ext 12 args [] = none) {most : Int} (hm : 0 ≤ most ∧ most ≤ 1000) : ∀ (f : Nat) (d : Nat) (l : List D), d ≤ 41 → lsOk 140737488355328 (smOk 140737488355328 f) l = true →
    callL Try.prog ext 12 [.list l, .int .i64 most, .int .i64 d] [] = some (.int .i64 (cnt most (f + 1) l d), [.no], [])
  | f, d, l, hd, h => by
    obtain ⟨h1, h2⟩ := lsOk_mem h
    refine count_step hx0 (fun of_ => cnt most f of_ ((d : Int) + 1)) most d hm ⟨by omega, by omega⟩ l h1 fun c hc => ?_
    obtain ⟨l1, rfl, g1, g2⟩ := cxOk_inv (h2 c hc)
    refine ⟨rfl, g1, fun x hx => ?_⟩
    obtain ⟨cc, l2, rfl, g3, g4⟩ := cpOk_inv (g2 x hx)
    refine ⟨rfl, g3, fun s hs => ?_⟩
    have h3 := g4 s hs
    cases f with
    | zero => simp [smOk] at h3
    | succ f =>
      obtain ⟨e, _, _, _, h4⟩ := smOk_inv h3
      refine ⟨e, fun h40 => ?_, cnt_nonneg hm.1 _ _ _, ?_⟩
      · have := count_L hx0 hm f (d + 1) (sf s).of_ (by omega) h4
        exact this
      · have := cnt_bd hm.1 f (d + 1) (sf s).of_ h4
        have h5 : (most + 2) * (((41 - (d + 1) : Nat) : Int) + 1) ≤ 1002 * 42 := Int.mul_le_mul (by omega) (by omega) (by omega) (by omega)
        have h6 : cnt most (f + 1) (sf s).of_ ((d : Int) + 1) = cnt most (f + 1) (sf s).of_ ((d + 1 : Nat) : Int) := rfl
        show cnt most (f + 1) (sf s).of_ ((d : Int) + 1) ≤ _
        rw [h6]
        omega
theorem great_L {ext : Call} (hx0 : ∀ args, ext 12 args [] = none) (hx5 : ∀ args, ext 5 args [] = none) {f : Nat} (l : List D) (most : Int) (hm : 0 ≤ most ∧ most ≤ 1000) (h : lsOk 140737488355328 (smOk 140737488355328 f) l = true) :
    callL Try.prog ext 5 [.list l, .int .i64 most] [] = some (.bool (decide (most < cnt most (f + 1) l 0)), [.no], []) := by
  have hc : callL Try.prog ext 12 [.list l, .int .i64 most, .int .i64 0] [] = some (.int .i64 (cnt most (f + 1) l 0), [.no], []) := count_L hx0 hm f 0 l (by omega) h
  generalize cnt most (f + 1) l 0 = n at *
  clear hm h
  by_cases c : most < n
  · exact callK (m := 10) (res := [4]) (rs := [.tmp 4]) (hx5 _) Try.func5 rfl rfl rfl rfl rfl W
  · exact callK (m := 10) (res := [4]) (rs := [.tmp 4]) (hx5 _) Try.func5 rfl rfl rfl rfl rfl W
end Go.Av
namespace Go.Proofs.Ytjoogeabdjdleaa
open Go.RowKit

abbrev Ge (w w' : World) : Prop := Below w.heap.size w w'
section
variable {w w' w'' : World} {o o' : Obj}
theorem Ge.new (h : Ge w w') (o : Obj) : Ge w (w'.alloc o) := Below.alloc h h.size o
theorem Ge.drew (h : Ge w w') : Ge w w'.drew := Below.drew h
theorem Ge.drewN (h : Ge w w') (n : Nat) : Ge w (w'.drewN n) := below_drewN h n
theorem Ge.tr (h : Ge w w') (h' : Ge w' w'') : Ge w w'' := Below.trans h (h'.mono h.size)
theorem Sl.ge {B : Nat} {a : Option Addr} {xs : List Value} (h : Sl w B a xs) (hB : B ≤ w.heap.size) (hg : Ge w w') : Sl w' B a xs := h.below (hg.mono hB)
end

section
variable {P : Program} {ops : Array Oper} {rest : List Oper} {o : Oper} {a : Act} {Q : Exit → Act → World → Prop}
end
end Go.Proofs.Ytjoogeabdjdleaa
namespace Go.Av
open Go.Proofs Go.RowKit Go.Proofs.Ytjoogeabdjdleaa
abbrev El : Type := (Nat → Prop) → World → Array Value → Nat → D → Prop
def El.mono (sz : Nat) (E : El) : Prop := ∀ (S S' : Nat → Prop) (w w' : World) (cur cur' : Array Value) (j j' : Nat) (x : D), (∀ b, S b → S' b) → (∀ b, S b → w'.heap[b]? = w.heap[b]?) → (∀ i, i < sz → cur'[j' * sz + i]? = cur[j * sz + i]?) → E S w cur j x → E S' w' cur' j' x
def So (base : Nat) (v : Value) (w : World) : Nat → Prop := fun b => base ≤ b ∧ b < w.heap.size ∧ some b ≠ v.ownBlock
def Sn (lo hi : Nat) : Nat → Prop := fun b => lo ≤ b ∧ b < hi
def RowI (E : El) (base : Nat) (t : TypeId) (sz : Nat) (X : List D) (w : World) (v : Value) (n : Nat) (xs : List Value) : Prop :=
  w.ownsRow base t sz v n xs ∧ ∀ j x, j < n → X[j]? = some x → E (So base v w) w xs.toArray j x
theorem RowI.nil (E : El) (base : Nat) (t : TypeId) (sz : Nat) (X : List D) (w : World) : RowI E base t sz X w (.slice none 0 0) 0 [] :=
  ⟨World.ownsRow_nil w base t sz, fun j x h => absurd h (Nat.not_lt_zero j)⟩
theorem RowI.ge {E : El} {base sz n : Nat} {t : TypeId} {X : List D} {w w' : World} {v : Value} {xs : List Value} (hE : E.mono sz) (h : RowI E base t sz X w v n xs) (hg : Ge w w') : RowI E base t sz X w' v n xs := by
  refine ⟨h.1.kept (row := none) ⟨hg.os, hg.tape, hg.output, hg.size, fun k hk _ => hg.block k hk⟩ (by cases v.ownBlock <;> simp), fun j x hj hx => hE _ _ _ _ _ _ _ _ _ (fun b hb => ⟨hb.1, Nat.lt_of_lt_of_le hb.2.1 hg.size, hb.2.2⟩) (fun b hb => hg.block b hb.2.1) (fun _ _ => rfl) (h.2 j x hj hx)⟩
theorem RowI.step {E : El} {base sz n : Nat} {t : TypeId} {X : List D} {wr w3 w' : World} {v v' : Value} {xs news : List Value} {x : D} {S : Nat → Prop} (hE : E.mono sz) (h : RowI E base t sz X wr v n xs) (hb : base ≤ wr.heap.size) (hg : Ge wr w3) (hx : X[n]? = some x)
    (hS : ∀ b, S b → wr.heap.size ≤ b ∧ b < w3.heap.size) (hn : E S w3 news.toArray 0 x) (hnl : news.length = sz) (ho' : w'.ownsRow base t sz v' (n + 1) (xs ++ news)) (hgr : w3.grownBy w' v.ownBlock)
    (hat : v'.ownBlock = v.ownBlock ∨ v'.ownBlock = some w3.heap.size) : RowI E base t sz X w' v' (n + 1) (xs ++ news) := by
  have hxl := h.1.1
  have hlt := h.1.lt
  have hsz := hg.size
  have hsz2 := hgr.size
  refine ⟨ho', fun j y hj hy => ?_⟩
  by_cases hjn : j < n
  · refine hE _ _ _ _ _ _ _ _ _ (fun b hb => ⟨hb.1, by have := hb.2.1; omega, fun e => ?_⟩) (fun b hb => (hgr.block b (by have := hb.2.1; omega) hb.2.2).trans (hg.block b hb.2.1)) (fun i hi => ?_) (h.2 j y hjn hy)
    · rcases hat with hat | hat
      · exact hb.2.2 (e.trans hat)
      · rw [hat] at e
        injection e with e
        have := hb.2.1
        omega
    · have hlt : j * sz + i < xs.length := by
        rw [hxl]
        have := Nat.mul_le_mul_right sz (show j + 1 ≤ n from hjn)
        rw [Nat.succ_mul] at this
        omega
      simp only [List.getElem?_toArray]
      exact List.getElem?_append_left hlt
  · obtain rfl : j = n := by omega
    obtain rfl := Option.some.inj (hx.symm.trans hy)
    refine hE _ _ _ _ _ _ _ _ _ (fun b hb => ⟨by have := (hS b hb).1; omega, by have := (hS b hb).2; omega, fun e => ?_⟩) (fun b hb => hgr.block b (hS b hb).2 (fun e => ?_)) (fun i hi => ?_) hn
    · rcases hat with hat | hat
      · have := (hlt b (hat.symm.trans e.symm)).2
        have := (hS b hb).1
        omega
      · rw [hat] at e
        injection e with e
        have := (hS b hb).2
        omega
    · have := (hlt b e.symm).2
      have := (hS b hb).1
      omega
    · simp only [List.getElem?_toArray]
      rw [List.getElem?_append_right (by rw [hxl]; omega), hxl]
      congr 1
      omega
theorem RowI.done {E : El} {base sz n : Nat} {t : TypeId} {X : List D} {w : World} {v : Value} {xs : List Value} {S : Nat → Prop} (hE : E.mono sz) (h : RowI E base t sz X w v n xs) (hn : n = X.length) (hl : n ≤ 1000000) (hS : ∀ b, base ≤ b → b < w.heap.size → S b) :
    RowS S w t sz v n fun cur => ∀ j x, X[j]? = some x → E S w cur j x := by
  have hb := h.1.lt
  rcases h.1.2 with ⟨rfl, rfl⟩ | ⟨g, cap, cur, rfl, h1, h2, h3, h4, h5, h6⟩
  · exact ⟨none, 0, rfl, Nat.le_refl _, Nat.zero_le _, Nat.zero_le _, .inl rfl⟩
  · have hg := (hb g rfl).2
    refine ⟨_, cap, rfl, h3, h4, hl, .inr ⟨g, cur, rfl, hS g h1 hg, h2, by rw [h5]; exact Nat.mul_le_mul_right _ h3, fun j x hx => ?_⟩⟩
    have hj : j < n := by rw [hn]; exact (List.getElem?_eq_some_iff.1 hx).1
    refine hE _ _ _ _ _ _ _ _ _ (fun b hb => hS b hb.1 hb.2.1) (fun _ _ => rfl) (fun i hi => ?_) (h.2 j x hj hx)
    have hlt : j * sz + i < n * sz := by
      have := Nat.mul_le_mul_right sz (show j + 1 ≤ n from hj)
      rw [Nat.succ_mul] at this
      omega
    rw [← h6, List.getElem?_toArray (xs := List.take _ _), List.getElem?_take, if_pos hlt, Array.getElem?_toList]
def ESm (k : Nat) : El := fun S w cur j s => SmR (SpO S w k) cur j s
def ECp (k : Nat) : El := fun S w cur j x => CpR S w (SpO S w k) cur j x
def ECx (k : Nat) : El := fun S w cur j c => CxR S w (SpO S w k) cur j c
theorem ESm.mono (k : Nat) : (ESm k).mono 11 := fun S S' w w' cur cur' j j' x hS hw hc h => (SmR.mono (fun _ _ h => SpO.mono hS hw h) h).cells hc
theorem ECp.mono (k : Nat) : (ECp k).mono 2 := fun S S' w w' cur cur' j j' x hS hw hc h => (CpR.mono (fun _ _ h => SpO.mono hS hw h) hS hw h).cells (hc 0 (by decide)) (hc 1 (by decide))
theorem ECx.mono (k : Nat) : (ECx k).mono 1 := fun S S' w w' cur cur' j j' x hS hw hc h => (CxR.mono (fun _ _ h => SpO.mono hS hw h) hS hw h).cells (by have := hc 0 (by decide); simpa using this)
end Go.Av
namespace Go.Av
open Go.Proofs Go.RowKit Go.Proofs.Ytjoogeabdjdleaa
theorem app_at {P : Program} {ops : Array Oper} {rest : List Oper} {o : Oper} {a : Act} {Q : Exit → Act → World → Prop} (w0 : World) (hgd : o.guard = none) (s x : Operand) (t : TypeId) (ho : o.op = .call { callee := .builtin .append, args := #[s, x], argTypes := #[t, t] })
    {e : TypeId} {size bytes : Nat} (E : EI P t e size bytes) (base : Nat) (v : Value) (n : Nat) (xs : List Value) (hs : a.eval s = v) (hown : w0.ownsRow base e size v n xs)
    (b : Nat) (cs : List Value) (hx : a.eval x = .slice (some ⟨b, 0, none⟩) 1 1) (hb : Bk w0 b e cs.toArray) (hl : cs.length = size) (h1 : ∀ u ∈ cs, u.oneCell' = true)
    (hn : n ≤ 1000000) (hby : bytes ≤ 1000) (hbase : base ≤ w0.heap.size)
    (h : ∀ v' w', w'.ownsRow base e size v' (n + 1) (xs ++ cs) → w0.grownBy w' v.ownBlock → (v'.ownBlock = v.ownBlock ∨ v'.ownBlock = some w0.heap.size) → wpList P ops Q rest (a.put o.dst v') w') : wpList P ops Q (o :: rest) a w0 := by
  obtain ⟨i, z, ht, hi, hz, hsz, hbyt, hzs, hpos⟩ := E
  refine wpList_append_own_at w0 hgd s x t ho base e i z size bytes ht hi hz hsz hbyt hzs hpos v n xs hs hown ⟨b, 0, none⟩ 1 1 cs hx (by simpa using hl) (fun j u hj => ?_) h1 (by simp only [maxLen]; omega) ?_ hbase (fun v' w' k1 k2 _ k4 => h v' w' k1 k2 k4)
  · rw [addr_add, Nat.zero_add, Bk.cell hb j]
    simpa using hj
  · have : (n + 1) * bytes ≤ 1000001 * 1000 := Nat.mul_le_mul (by omega) hby
    omega
theorem eiC : EI Try.prog 22 30 1 24 := EI.mk (z := .agg #[.slice none 0 0]) (by kernel_rfl) (by kernel_rfl) (by decide) (by decide)
theorem eiP : EI Try.prog 28 46 2 32 := EI.mk (z := .agg #[.int .i64 0, .slice none 0 0]) (by kernel_rfl) (by kernel_rfl) (by decide) (by decide)
theorem eiS : EI Try.prog 44 37 11 128 := EI.mk (z := .agg #[.int .i64 0, .int .i64 0, .string ⟨#[]⟩, .string ⟨#[]⟩, .int .i64 0, .string ⟨#[]⟩, .bool false, .int .i64 0, .int .i64 0, .int .i64 0, .slice none 0 0]) (by kernel_rfl) (by kernel_rfl) (by decide) (by decide)
section
variable {F : Nat → Nat → Prop} {w : World}
theorem list_at {a : Option Addr} {n c sz : Nat} {es : List D} (hlt : Lt F w) (hd : Den0 F w (.slice a n c) (.list es)) (hs : ∀ e ∈ es, (dcells e).length = sz) {i : Nat} {e : D} (he : es[i]? = some e) :
    ∃ b off, a = some ⟨b, off, none⟩ ∧ b < w.heap.size ∧ ∀ (j : Nat) (x : D), (dcells e)[j]? = some x → ∃ u, w.cell? ⟨b, off + (i * sz + j), none⟩ = some u ∧ Den0 F w u x := by
  obtain ⟨a', c', vs, hv, hc, hvl, hsl, h1, hx⟩ := list_sl hlt hd hs
  injection hv with e1 e2 e3
  subst e1 e3
  have hi : i < es.length := (List.getElem?_eq_some_iff.1 he).1
  have hel := hs e (List.mem_of_getElem? he)
  by_cases hz : sz = 0
  · subst hz
    have hsl' := hsl
    by_cases hne : vs = []
    · cases hd with
      | list a n c sz' es vs' q1 q2 q3 q4 q5 q6 q7 =>
        have := q4 e (List.mem_of_getElem? he)
        omega
    · obtain ⟨b, off, ha, hb, _⟩ := hsl hne
      exact ⟨b, off, ha, hb, fun j x hj => by have := (List.getElem?_eq_some_iff.1 hj).1; omega⟩
  · have hne : vs ≠ [] := by
      intro e0
      have hm : es.length * sz = 0 := by rw [← hvl, e0]; rfl
      rcases Nat.mul_eq_zero.1 hm with h | h
      · omega
      · exact hz h
    obtain ⟨b, off, ha, hb, hc2⟩ := hsl hne
    refine ⟨b, off, ha, hb, fun j x hj => ?_⟩
    have hjl : j < sz := by have := (List.getElem?_eq_some_iff.1 hj).1; omega
    have f := flat_at hs he j hjl
    rw [hj] at f
    have l : i * sz + j < vs.length := by
      rw [hvl]
      have := Nat.mul_le_mul_right sz (show i + 1 ≤ es.length from hi)
      rw [Nat.succ_mul] at this
      omega
    exact ⟨_, hc2 _ l, hx _ _ _ (List.getElem?_eq_getElem l) f⟩
theorem den_slice {u : Value} {X : List D} (h : Den0 F w u (.list X)) : ∃ a c, u = .slice a X.length c := by
  cases h with
  | list a n c sz es vs h1 => exact ⟨a, c, by rw [h1]⟩
end
theorem den_ge {F : Nat → Nat → Prop} {w W : World} {v : Value} {d : D} (h : Den0 F w v d) (hlt : Lt F w) (hb : Ge w W) : Den0 F W v d :=
  h.ext (S := fun _ => False) ⟨hb.os, hb.tape, hb.output, hb.size, fun b h _ => hb.block b h, fun b o h => h, fun b o h => by unfold World.cell?; rw [hb.block b (hlt b o h)], fun b es c hf hm => (hb.block b (hlt b 0 hf)).trans hm⟩
theorem lt_ge {F : Nat → Nat → Prop} {w W : World} (hlt : Lt F w) (hb : Ge w W) : Lt F W := fun b o h => Nat.lt_of_lt_of_le (hlt b o h) hb.size
theorem Ge.tr' {w w' w'' : World} {r : Option Nat} (h : Ge w w') (hg : w'.grownBy w'' r) (hr : ∀ k, r = some k → w.heap.size ≤ k) : Ge w w'' := Below.trans h (below_of_grown hg h.size hr)
theorem ge_put' {w W : World} (h : Ge w W) {b o : Nat} (hb : w.heap.size ≤ b) (u : Value) : Ge w (W.setCell ⟨b, o, none⟩ u) :=
  ⟨h.os, h.tape, h.output, by simpa using h.size, fun k hk => (Below.heap_setCell W ⟨b, o, none⟩ u k (show k ≠ b by omega)).trans (h.block k hk)⟩
def CopyC (k : Nat) : Prop := ∀ (l : List D) (F : Nat → Nat → Prop) (w : World) (v : Value), Lt F w → Den0 F w v (.list l) → lsOk 1000 (smOk 1000 k) l = true →
  Calls Try.prog 8 #[v] w fun e w' => ∃ u, e = .returned u ∧ Ge w w' ∧ SpO (Sn w.heap.size w'.heap.size) w' (k + 1) u l
set_option maxHeartbeats 8000000 in
theorem copy_step (k : Nat) (IH : ∀ k', k = k' + 1 → CopyC k') : CopyC k := by
  intro l F w v hlt hd hok
  obtain ⟨hll, hcx⟩ := lsOk_mem hok
  have hfm := szL_of hok
  obtain ⟨a, c0, hv⟩ := den_slice hd
  subst hv
  generalize hn0 : l.length = n at *
  have hn := Lib.hid hn0
  clear hn0
  have HD := Lib.hid hd
  have HF := Lib.hid hfm
  have HC := Lib.hid hcx
  clear hd hfm hcx hok
  go_enter Try.func8, Try.ntmps8
  go_wp2_with fail
  go_loopw [13, 2] (fun v o wr => ∃ i : Nat, v = .int .i64 i ∧ i ≤ n ∧ Ge w wr ∧ ∃ xs, RowI (ECx k) w.heap.size 30 1 l wr o i xs) (fun v _ _ => n - (intOf v).toNat)
  case atStart => exact ⟨0, rfl, Nat.zero_le _, Below.refl _ _, [], RowI.nil _ _ _ _ _ _⟩
  case round =>
    rename World => wo
    obtain ⟨i, rfl, hin, hG, xs, hR⟩ := hrel
    by_cases hi2 : i < n
    · obtain ⟨c, hc⟩ : ∃ c, l[i]? = some c := ⟨_, List.getElem?_eq_getElem (by have := hn.out; omega)⟩
      obtain ⟨ec, hfX⟩ := HF.out c (List.mem_of_getElem? hc)
      have hokX := HC.out c (List.mem_of_getElem? hc)
      obtain ⟨b, off, rfl, hb, hcell⟩ := list_at (sz := 1) hlt HD.out (fun c h => by rw [(HF.out c h).1]; rfl) hc
      obtain ⟨u, hu, hdu⟩ := hcell 0 (.list (cxL c)) (by rw [ec]; rfl)
      obtain ⟨a1, c1, rfl⟩ := den_slice hdu
      rw [ec] at hokX
      obtain ⟨_, e1, hXl, hokY⟩ := cxOk_inv hokX
      injection e1 with e1; injection e1 with e1 _; injection e1 with e1
      subst e1
      generalize hX0 : cxL c = X at *
      generalize hxn0 : X.length = xn at *
      have hxn := Lib.hid hxn0
      have hX := Lib.hid hX0
      have HEC := Lib.hid ec
      have HCC := Lib.hid hc
      have q0 := (hG.cell (p := ⟨b, off + i, none⟩) hb).trans (by simpa using hu)
      have HDU := Lib.hid hdu
      have HFX := Lib.hid hfX
      have HOY := Lib.hid hokY
      have HR := Lib.hid hR
      have HG := Lib.hid hG
      clear hxn0 hX0 ec hc hu hdu hfX hokY hR hG hcell hokX
      go_wp2_with fail
      go_loopw [20, 5] (fun v o wy => ∃ j : Nat, v = .int .i64 j ∧ j ≤ xn ∧ Ge (wo.alloc (.cells #[.slice a1 xn c1] 30)) wy ∧ ∃ ys, RowI (ECp k) (wo.heap.size + 1) 46 2 X wy o j ys) (fun v _ _ => xn - (intOf v).toNat)
      case atStart => exact ⟨0, rfl, Nat.zero_le _, Below.refl _ _, [], RowI.nil _ _ _ _ _ _⟩
      case round =>
        clear q0
        rename World => wy
        obtain ⟨j, rfl, hjn, hG1, ys, hR1⟩ := hrel
        by_cases hj2 : j < xn
        · obtain ⟨x, hx⟩ : ∃ x, X[j]? = some x := ⟨_, List.getElem?_eq_getElem (by have := hxn.out; omega)⟩
          obtain ⟨ex, hfY⟩ := HFX.out x (List.mem_of_getElem? hx)
          have hokx := HOY.out x (List.mem_of_getElem? hx)
          have hdu := HDU.out
          obtain ⟨b2, off2, rfl, hb2, hcell⟩ := list_at (sz := 2) hlt hdu (fun c h => by rw [(HFX.out c h).1]; rfl) hx
          obtain ⟨u0, hu0, hd0⟩ := hcell 0 (.int .i64 (cpC x)) (by rw [ex]; rfl)
          obtain ⟨u1, hu1, hd1⟩ := hcell 1 (.list (cpL x)) (by rw [ex]; rfl)
          obtain rfl : u0 = .int .i64 (cpC x) := by cases hd0; rfl
          obtain ⟨a2, c2, rfl⟩ := den_slice hd1
          rw [ex] at hokx
          obtain ⟨_, _, e1, hYl, hokS⟩ := cpOk_inv hokx
          injection e1 with e1; injection e1 with e0 e1; injection e1 with e1 _; injection e1 with e1
          subst e1
          generalize hY0 : cpL x = Y at *
          generalize hcc0 : cpC x = cc at *
          generalize hyn0 : Y.length = yn at *
          have hyn := Lib.hid hyn0
          have hY := Lib.hid hY0
          have hcc := Lib.hid hcc0
          have HEX := Lib.hid ex
          have HXX := Lib.hid hx
          have GE0 : Ge w wy := Ge.tr (Ge.tr HG.out (Ge.new (Below.refl _ _) _)) hG1
          have p0 := (GE0.cell (p := ⟨b2, off2 + j * 2, none⟩) hb2).trans (by simpa using hu0)
          have p1 := (GE0.cell (p := ⟨b2, off2 + j * 2 + 1, none⟩) hb2).trans (by simpa [Nat.add_assoc] using hu1)
          have HDV := Lib.hid hd1
          have HFY := Lib.hid hfY
          have HOS := Lib.hid hokS
          have HR1 := Lib.hid hR1
          have HG1 := Lib.hid hG1
          have HGW := Lib.hid GE0
          clear hyn0 hY0 hcc0 ex hx hu0 hu1 hd0 hd1 hfY hokS hR1 hG1 hcell hokx GE0 hdu e0
          go_wp2_with fail
          go_loopw [27, 8] (fun v o wz => ∃ m : Nat, v = .int .i64 m ∧ m ≤ yn ∧ Ge (wy.alloc (.cells #[.int .i64 cc, .slice a2 yn c2] 46)) wz ∧ ∃ zs, RowI (ESm k) (wy.heap.size + 1) 37 11 Y wz o m zs) (fun v _ _ => yn - (intOf v).toNat)
          case atStart => exact ⟨0, rfl, Nat.zero_le _, Below.refl _ _, [], RowI.nil _ _ _ _ _ _⟩
          case round =>
            clear p0 p1
            rename World => wz
            obtain ⟨m, rfl, hmn, hG2, zs, hR2⟩ := hrel
            by_cases hm2 : m < yn
            · obtain ⟨s, hs⟩ : ∃ s, Y[m]? = some s := ⟨_, List.getElem?_eq_getElem (by have := hyn.out; omega)⟩
              have hoks := HOS.out s (List.mem_of_getElem? hs)
              have es := HFY.out s (List.mem_of_getElem? hs)
              obtain ⟨k', hk⟩ : ∃ k', k = k' + 1 := by
                cases k with
                | zero => simp [smOk] at hoks
                | succ k' => exact ⟨k', rfl⟩
              have IHk := IH k' hk
              rw [hk] at hoks
              obtain ⟨_, _, _, _, hokO⟩ := smOk_inv hoks
              have hdv := HDV.out
              obtain ⟨b3, off3, rfl, hb3, hcell⟩ := list_at (sz := 11) hlt hdv (fun c h => by rw [HFY.out c h]; rfl) hs
              generalize hz0 : sf s = z at *
              have hz := Lib.hid hz0
              have HES := Lib.hid es
              have HSS := Lib.hid hs
              have hK := Lib.hid hk
              have GZ : Ge w wz := Ge.tr (Ge.tr HGW.out (Ge.new (Below.refl _ _) _)) hG2
              obtain ⟨v0, g0, d0⟩ := hcell 0 (.int .i64 z.kd) (by rw [es]; rfl)
              obtain rfl : v0 = .int .i64 z.kd := by cases d0; rfl
              have r0 := (GZ.cell (p := ⟨b3, off3 + m * 11, none⟩) hb3).trans (by simpa [Nat.add_assoc] using g0)
              obtain ⟨v1, g1, d1⟩ := hcell 1 (.int .i64 z.ns) (by rw [es]; rfl)
              obtain rfl : v1 = .int .i64 z.ns := by cases d1; rfl
              have r1 := (GZ.cell (p := ⟨b3, off3 + m * 11 + 1, none⟩) hb3).trans (by simpa [Nat.add_assoc] using g1)
              obtain ⟨v2, g2, d2⟩ := hcell 2 (.str z.pre) (by rw [es]; rfl)
              obtain rfl : v2 = .string ⟨z.pre.toArray⟩ := by cases d2; rfl
              have r2 := (GZ.cell (p := ⟨b3, off3 + m * 11 + 2, none⟩) hb3).trans (by simpa [Nat.add_assoc] using g2)
              obtain ⟨v3, g3, d3⟩ := hcell 3 (.str z.nm) (by rw [es]; rfl)
              obtain rfl : v3 = .string ⟨z.nm.toArray⟩ := by cases d3; rfl
              have r3 := (GZ.cell (p := ⟨b3, off3 + m * 11 + 3, none⟩) hb3).trans (by simpa [Nat.add_assoc] using g3)
              obtain ⟨v4, g4, d4⟩ := hcell 4 (.int .i64 z.op) (by rw [es]; rfl)
              obtain rfl : v4 = .int .i64 z.op := by cases d4; rfl
              have r4 := (GZ.cell (p := ⟨b3, off3 + m * 11 + 4, none⟩) hb3).trans (by simpa [Nat.add_assoc] using g4)
              obtain ⟨v5, g5, d5⟩ := hcell 5 (.str z.tx) (by rw [es]; rfl)
              obtain rfl : v5 = .string ⟨z.tx.toArray⟩ := by cases d5; rfl
              have r5 := (GZ.cell (p := ⟨b3, off3 + m * 11 + 5, none⟩) hb3).trans (by simpa [Nat.add_assoc] using g5)
              obtain ⟨v6, g6, d6⟩ := hcell 6 (.bool z.fold) (by rw [es]; rfl)
              obtain rfl : v6 = .bool z.fold := by cases d6; rfl
              have r6 := (GZ.cell (p := ⟨b3, off3 + m * 11 + 6, none⟩) hb3).trans (by simpa [Nat.add_assoc] using g6)
              obtain ⟨v7, g7, d7⟩ := hcell 7 (.int .i64 z.mark) (by rw [es]; rfl)
              obtain rfl : v7 = .int .i64 z.mark := by cases d7; rfl
              have r7 := (GZ.cell (p := ⟨b3, off3 + m * 11 + 7, none⟩) hb3).trans (by simpa [Nat.add_assoc] using g7)
              obtain ⟨v8, g8, d8⟩ := hcell 8 (.int .i64 z.a) (by rw [es]; rfl)
              obtain rfl : v8 = .int .i64 z.a := by cases d8; rfl
              have r8 := (GZ.cell (p := ⟨b3, off3 + m * 11 + 8, none⟩) hb3).trans (by simpa [Nat.add_assoc] using g8)
              obtain ⟨v9, g9, d9⟩ := hcell 9 (.int .i64 z.b) (by rw [es]; rfl)
              obtain rfl : v9 = .int .i64 z.b := by cases d9; rfl
              have r9 := (GZ.cell (p := ⟨b3, off3 + m * 11 + 9, none⟩) hb3).trans (by simpa [Nat.add_assoc] using g9)
              obtain ⟨v10, g10, d10⟩ := hcell 10 (.list z.of_) (by rw [es]; rfl)
              obtain ⟨a3, c3, rfl⟩ := den_slice d10
              have r10 := (GZ.cell (p := ⟨b3, off3 + m * 11 + 10, none⟩) hb3).trans (by simpa [Nat.add_assoc] using g10)
              generalize hon0 : z.of_.length = on at *
              have hon := Lib.hid hon0
              have HDO := Lib.hid d10
              have HOO := Lib.hid hokO
              have HR2 := Lib.hid hR2
              have HG2 := Lib.hid hG2
              have HGZ := Lib.hid GZ
              have hmL : m ≤ 1000000 := by omega
              have hzw : wy.heap.size + 1 ≤ wz.heap.size := by have := hG2.size; simpa using this
              clear hon0 hz0 es hs hk hoks hokO hdv hcell d10 hR2 hG2 GZ g0 g1 g2 g3 g4 g5 g6 g7 g8 g9 g10 d0 d1 d2 d3 d4 d5 d6 d7 d8 d9
              go_wp2_with (first
                | (go_at_call 8; refine (IHk z.of_ F _ _ (lt_ge hlt (Ge.new HGZ.out _)) (den_ge HDO.out hlt (Ge.new HGZ.out _)) HOO.out).mono ?_; rintro e w4 ⟨u', rfl, hb4, hsp⟩; obtain ⟨A7, C7, h7, _⟩ := id (show RowS _ _ _ _ _ _ _ from hsp); subst h7; rw [hon.out] at hsp ⊢; have B4 := Bk.below (Bk.new wz 37 #[.int .i64 z.kd, .int .i64 z.ns, .string ⟨z.pre.toArray⟩, .string ⟨z.nm.toArray⟩, .int .i64 z.op, .string ⟨z.tx.toArray⟩, .bool z.fold, .int .i64 z.mark, .int .i64 z.a, .int .i64 z.b, .slice a3 on c3]) hb4 (by simp); have B5 := Bk.put B4 10 (.slice A7 on C7); have y10 := Bk.cell B4 10; have f10 := Bk.free B4 10; simp at y10; have k0 := Bk.cell B5 0; have k1 := Bk.cell B5 1; have k2 := Bk.cell B5 2; have k3 := Bk.cell B5 3; have k4 := Bk.cell B5 4; have k5 := Bk.cell B5 5; have k6 := Bk.cell B5 6; have k7 := Bk.cell B5 7; have k8 := Bk.cell B5 8; have k9 := Bk.cell B5 9; have k10 := Bk.cell B5 10; simp at k0 k1 k2 k3 k4 k5 k6 k7 k8 k9 k10; have GE := Lib.hid (Ge.new (ge_put' (o := 10) (Ge.tr (Ge.new (Below.refl _ wz) _) hb4) (Nat.le_refl _) (.slice A7 on C7)) (.cells [.int .i64 z.kd, .int .i64 z.ns, .string ⟨z.pre.toArray⟩, .string ⟨z.nm.toArray⟩, .int .i64 z.op, .string ⟨z.tx.toArray⟩, .bool z.fold, .int .i64 z.mark, .int .i64 z.a, .int .i64 z.b, .slice A7 on C7].toArray 37)); have HB4 := Lib.hid hb4; have HSP := Lib.hid hsp; have HE1 := Lib.hid (RowI.ge (ESm.mono k) HR2.out GE.out).1; have e2 : wy.heap.size + 1 ≤ ((w4.setCell ⟨wz.heap.size, 10, none⟩ (.slice A7 on C7)).alloc (.cells [.int .i64 z.kd, .int .i64 z.ns, .string ⟨z.pre.toArray⟩, .string ⟨z.nm.toArray⟩, .int .i64 z.op, .string ⟨z.tx.toArray⟩, .bool z.fold, .int .i64 z.mark, .int .i64 z.a, .int .i64 z.b, .slice A7 on C7].toArray 37)).heap.size := Nat.le_trans hzw GE.out.size; have e3 := Bk.new (w4.setCell ⟨wz.heap.size, 10, none⟩ (.slice A7 on C7)) 37 [.int .i64 z.kd, .int .i64 z.ns, .string ⟨z.pre.toArray⟩, .string ⟨z.nm.toArray⟩, .int .i64 z.op, .string ⟨z.tx.toArray⟩, .bool z.fold, .int .i64 z.mark, .int .i64 z.a, .int .i64 z.b, .slice A7 on C7].toArray; rw [show (w4.setCell ⟨wz.heap.size, 10, none⟩ (.slice A7 on C7)).heap.size = w4.heap.size from by simp] at e3; have e3 := Lib.hid e3; clear hb4 hsp B4 B5)
                | (at_builtin; refine app_at _ rfl (.tmp 35) (.tmp 37) 44 rfl eiS (wy.heap.size + 1) _ m zs rfl HE1.out _ [Value.int .i64 z.kd, .int .i64 z.ns, .string ⟨z.pre.toArray⟩, .string ⟨z.nm.toArray⟩, .int .i64 z.op, .string ⟨z.tx.toArray⟩, .bool z.fold, .int .i64 z.mark, .int .i64 z.a, .int .i64 z.b, .slice A7 on C7] rfl e3.out rfl (by simp [Value.oneCell']) hmL (by decide) e2 ?_; intro v' w' ho' hgr hat))
              have hsz4 := HB4.out.size
              simp at hsz4
              refine ⟨⟨m + 1, by simp, hm2, ?_, zs ++ [Value.int .i64 z.kd, .int .i64 z.ns, .string ⟨z.pre.toArray⟩, .string ⟨z.nm.toArray⟩, .int .i64 z.op, .string ⟨z.tx.toArray⟩, .bool z.fold, .int .i64 z.mark, .int .i64 z.a, .int .i64 z.b, .slice A7 on C7], ?_⟩, by simp [intOf]; omega⟩
              · exact Ge.tr' (Ge.tr HG2.out GE.out) hgr fun b hb => by have := (HR2.out.1.lt b hb).1; simpa using this
              · refine RowI.step (S := Sn (wz.heap.size + 1) w4.heap.size) (ESm.mono k) HR2.out hzw GE.out HSS.out (fun b hb => ⟨by have := hb.1; omega, by have := hb.2; simp; omega⟩) ?_ rfl ho' hgr hat
                have hq : SpO (Sn (wz.heap.size + 1) w4.heap.size) ((w4.setCell ⟨wz.heap.size, 10, none⟩ (.slice A7 on C7)).alloc (.cells [.int .i64 z.kd, .int .i64 z.ns, .string ⟨z.pre.toArray⟩, .string ⟨z.nm.toArray⟩, .int .i64 z.op, .string ⟨z.tx.toArray⟩, .bool z.fold, .int .i64 z.mark, .int .i64 z.a, .int .i64 z.b, .slice A7 on C7].toArray 37)) (k' + 1) (.slice A7 on C7) z.of_ :=
                  SpO.mono (fun b hb => by simpa using hb) (fun b hb => (Below.heap_alloc _ _ _ (by have := hb.2; simp; omega)).trans (Below.heap_setCell _ _ _ _ (by have h1 := hb.1; simp at h1; show b ≠ wz.heap.size; omega))) HSP.out
                rw [← hK.out] at hq
                refine ⟨by rw [hz.out]; exact HES.out, ?_, .slice A7 on C7, rfl, by rw [hz.out]; exact hq⟩
                rw [hz.out]
                exact ⟨rfl, rfl, rfl, rfl, rfl, rfl, rfl, rfl, rfl, rfl⟩
            · obtain rfl : m = yn := by omega
              have hfin := Lib.hid (RowI.done (S := Sn (wy.heap.size + 1) wz.heap.size) (ESm.mono k) hR2 hyn.out.symm (by omega) (fun b h1 h2 => ⟨h1, h2⟩))
              have hz2 : wy.heap.size + 1 ≤ wz.heap.size := by have := hG2.size; simpa using this
              have GE0 : Ge wy wz := Ge.tr (Ge.new (Below.refl _ _) _) hG2
              have hBx : Bk wz wy.heap.size 46 #[.int .i64 cc, .slice a2 m c2] := Bk.below (Bk.new _ _ _) hG2 (by simp)
              have k0 := Bk.cell hBx 0
              clear hR2 hG2 hBx
              obtain ⟨A6, C6, h6, _⟩ := id hfin.out
              subst h6
              simp only [List.getElem?_toArray, List.getElem?_cons_zero] at k0
              have GE : Ge wy (wz.alloc (.cells #[.int .i64 cc, .slice A6 m C6] 46)) := Ge.new GE0 _
              have hzy := HG1.out.size
              have e1 := (RowI.ge (ECp.mono k) HR1.out GE).1
              have e2 : wo.heap.size + 1 ≤ (wz.alloc (.cells #[.int .i64 cc, .slice A6 m C6] 46)).heap.size := by have := GE.size; simp at hzy this ⊢; omega
              have e3 : Bk (wz.alloc (.cells #[.int .i64 cc, .slice A6 m C6] 46)) wz.heap.size 46 [Value.int .i64 cc, Value.slice A6 m C6].toArray := Bk.new _ _ _
              have hjL : j ≤ 1000000 := by omega
              have HGE := Lib.hid GE
              have HE1 := Lib.hid e1
              clear GE GE0 e1
              go_wp2_with (at_builtin; refine app_at _ rfl (.tmp 40) (.tmp 45) 28 rfl eiP (wo.heap.size + 1) _ j ys rfl HE1.out wz.heap.size [.int .i64 cc, .slice A6 m C6] rfl e3 rfl (by simp [Value.oneCell']) hjL (by decide) e2 ?_; intro v' w' ho' hgr hat)
              refine ⟨⟨j + 1, by simp, hj2, ?_, ys ++ [.int .i64 cc, .slice A6 m C6], ?_⟩, by simp [intOf]; omega⟩
              · exact Ge.tr' (Ge.tr HG1.out HGE.out) hgr fun b hb => by have := (HR1.out.1.lt b hb).1; simpa using this
              · refine RowI.step (S := Sn (wy.heap.size + 1) wz.heap.size) (ECp.mono k) HR1.out (by simpa using hzy) HGE.out HXX.out (fun b hb => ⟨by have := hb.1; omega, by have := hb.2; simp; omega⟩) ?_ rfl ho' hgr hat
                refine ⟨by rw [hY.out, hcc.out]; exact HEX.out, by rw [hcc.out]; rfl, .slice A6 m C6, rfl, ?_⟩
                rw [hY.out, hyn.out]
                exact RowS.mono hfin.out (fun _ h => h) (fun b hb => Below.heap_alloc _ _ _ hb.2) fun cur h j x hx => ESm.mono k _ _ _ _ _ _ _ _ _ (fun _ h => h) (fun b hb => Below.heap_alloc _ _ _ hb.2) (fun _ _ => rfl) (h j x hx)
        · obtain rfl : j = xn := by omega
          have hfin := Lib.hid (RowI.done (S := Sn (wo.heap.size + 1) wy.heap.size) (ECp.mono k) hR1 hxn.out.symm (by omega) (fun b h1 h2 => ⟨h1, h2⟩))
          have hz1 : wo.heap.size + 1 ≤ wy.heap.size := by have := hG1.size; simpa using this
          have GE0 : Ge wo wy := Ge.tr (Ge.new (Below.refl _ _) _) hG1
          clear hR1 hG1
          obtain ⟨A5, C5, h5, _⟩ := id hfin.out
          subst h5
          have GE : Ge wo (wy.alloc (.cells #[.slice A5 j C5] 30)) := Ge.new GE0 _
          have HGE := Lib.hid GE
          have HGE0 := Lib.hid GE0
          clear GE GE0
          have e1 := (RowI.ge (ECx.mono k) HR.out HGE.out).1
          have e2 : w.heap.size ≤ (wy.alloc (.cells #[.slice A5 j C5] 30)).heap.size := by have := HG.out.size; have := HGE.out.size; omega
          have e3 : Bk (wy.alloc (.cells #[.slice A5 j C5] 30)) wy.heap.size 30 [Value.slice A5 j C5].toArray := Bk.new _ _ _
          go_wp2_with (at_builtin; refine app_at _ rfl (.tmp 48) (.tmp 51) 22 rfl eiC w.heap.size _ i xs rfl e1 wy.heap.size [.slice A5 j C5] rfl e3 rfl (by simp [Value.oneCell']) (by omega) (by decide) e2 ?_; intro v' w' ho' hgr hat)
          refine ⟨⟨i + 1, by simp, hi2, ?_, xs ++ [.slice A5 j C5], ?_⟩, by simp [intOf]; omega⟩
          · exact Ge.tr' (Ge.tr HG.out HGE.out) hgr fun b hb => (HR.out.1.lt b hb).1
          · refine RowI.step (S := Sn (wo.heap.size + 1) wy.heap.size) (ECx.mono k) HR.out HG.out.size HGE.out HCC.out (fun b hb => ⟨by have := hb.1; omega, by have := hb.2; simp; omega⟩) ?_ rfl ho' hgr hat
            refine ⟨by rw [hX.out]; exact HEC.out, .slice A5 j C5, rfl, ?_⟩
            rw [hX.out, hxn.out]
            exact RowS.mono hfin.out (fun _ h => h) (fun b hb => Below.heap_alloc _ _ _ hb.2) fun cur h j x hx => ECp.mono k _ _ _ _ _ _ _ _ _ (fun _ h => h) (fun b hb => Below.heap_alloc _ _ _ hb.2) (fun _ _ => rfl) (h j x hx)
    · obtain rfl : i = n := by omega
      have hfin := Lib.hid (RowI.done (S := Sn w.heap.size wo.heap.size) (ECx.mono k) hR hn.out.symm (by omega) (fun b h1 h2 => ⟨h1, h2⟩))
      have HG := Lib.hid hG
      clear hR hG
      go_wp2_with fail
      go_ret
      refine ⟨_, rfl, HG.out, ?_⟩
      have h := hfin.out
      rw [← hn.out] at h
      exact h
theorem copy_all : ∀ k, CopyC k
  | 0 => copy_step 0 fun k' h => absurd h (by omega)
  | k + 1 => copy_step (k + 1) fun k' h => by
    obtain rfl : k' = k := by omega
    exact copy_all k'
end Go.Av
namespace Go.Av
open Go.Proofs Go.RowKit Go.Proofs.Ytjoogeabdjdleaa
variable {S : Nat → Prop} {w : World}
theorem SpO.nil : ∀ (k : Nat), SpO S w k (.slice none 0 0) []
  | 0 => ⟨rfl, none, 0, rfl, Nat.zero_le _⟩
  | k + 1 => ⟨none, 0, rfl, Nat.le_refl _, Nat.zero_le _, Nat.zero_le _, .inl rfl⟩
theorem LsR.at_ {Q : Value → List D → Prop} {u : Value} {l : List D} (h : LsR S w Q u l) {i : Nat} (hi : i < l.length) : ∃ g C v c, u = .slice (some ⟨g, 0, none⟩) l.length C ∧ (∀ W, Spl S w W → W.cell? ⟨g, i, none⟩ = some v) ∧
    RowS S w 46 2 v (cxL c).length fun d => ∀ j x, (cxL c)[j]? = some x → CpR S w Q d j x := by
  obtain ⟨A, C, rfl, h1, h2, h3, h⟩ := h
  rcases h with h | ⟨g, cur, rfl, h4, h5, h6, h7⟩
  · omega
  · have hc : l[i]? = some l[i] := List.getElem?_eq_getElem hi
    obtain ⟨_, v, hv, hr⟩ := h7 i _ hc
    refine ⟨g, C, v, _, rfl, fun W hS => ?_, hr⟩
    obtain ⟨cur', k1, k2, k3, _, _⟩ := hS.bk g _ cur h5
    obtain rfl := k3 rfl
    rw [Bk.cell k1]
    exact hv
theorem row2_at {Q : Value → List D → Prop} {u : Value} {X : List D} (h : RowS S w 46 2 u X.length fun d => ∀ j x, X[j]? = some x → CpR S w Q d j x) {i : Nat} (hi : i < X.length) :
    ∃ g C v x, u = .slice (some ⟨g, 0, none⟩) X.length C ∧ S g ∧ (∀ W, Spl S w W → W.cell? ⟨g, i * 2 + 1, none⟩ = some v ∧ (∃ z, W.cell? ⟨g, i * 2, none⟩ = some z) ∧ ∃ cur', Bk W g 46 cur') ∧
    RowS S w 37 11 v (cpL x).length fun d => ∀ j s, (cpL x)[j]? = some s → SmR Q d j s := by
  obtain ⟨A, C, rfl, h1, h2, h3, h⟩ := h
  rcases h with h | ⟨g, cur, rfl, h4, h5, h6, h7⟩
  · omega
  · have hc : X[i]? = some X[i] := List.getElem?_eq_getElem hi
    obtain ⟨_, _, v, hv, hr⟩ := h7 i _ hc
    refine ⟨g, C, v, _, rfl, h4, fun W hS => ?_, hr⟩
    obtain ⟨cur', k1, k2, _, k4, _⟩ := hS.bk g _ cur h5
    exact ⟨by rw [Bk.cell k1, k4 rfl]; exact hv, by rw [Bk.cell k1]; exact ⟨_, Array.getElem?_eq_getElem (by omega)⟩, cur', k1⟩
theorem row3_at {Q : Value → List D → Prop} {u : Value} {Y : List D} (h : RowS S w 37 11 u Y.length fun d => ∀ j s, Y[j]? = some s → SmR Q d j s) {i : Nat} (hi : i < Y.length) (hn : Q (.slice none 0 0) []) :
    ∃ g C, u = .slice (some ⟨g, 0, none⟩) Y.length C ∧ S g ∧ (∀ W, Spl S w W → ∃ o of_ cur', Bk W g 37 cur' ∧ (∀ j, j < 11 → ∃ z, W.cell? ⟨g, i * 11 + j, none⟩ = some z) ∧ W.cell? ⟨g, i * 11 + 10, none⟩ = some o ∧ Q o of_) := by
  obtain ⟨A, C, rfl, h1, h2, h3, h⟩ := h
  rcases h with h | ⟨g, cur, rfl, h4, h5, h6, h7⟩
  · omega
  · have hc : Y[i]? = some Y[i] := List.getElem?_eq_getElem hi
    obtain ⟨_, _, o, hv, hr⟩ := h7 i _ hc
    refine ⟨g, C, rfl, h4, fun W hS => ?_⟩
    obtain ⟨cur', k1, k2, _, _, k5⟩ := hS.bk g _ cur h5
    have hz : ∀ j, j < 11 → ∃ z, W.cell? ⟨g, i * 11 + j, none⟩ = some z := fun j hj => by rw [Bk.cell k1]; exact ⟨_, Array.getElem?_eq_getElem (by omega)⟩
    rcases k5 rfl i with k5 | k5
    · exact ⟨o, _, cur', k1, hz, by rw [Bk.cell k1, k5]; exact hv, hr⟩
    · exact ⟨_, [], cur', k1, hz, by rw [Bk.cell k1]; exact k5, hn⟩
theorem RowS.len {t : TypeId} {sz n : Nat} {u : Value} {E : Array Value → Prop} (h : RowS S w t sz u n E) : ∃ A C, u = .slice A n C ∧ n ≤ 1000000 := by
  obtain ⟨A, C, rfl, _, _, h, _⟩ := h
  exact ⟨A, C, rfl, h⟩
theorem Spl.put11 {W : World} (h : Spl S w W) {b i : Nat} {cur : Array Value} (hS : S b) (hb : Bk W b 37 cur) (u0 u1 u2 u3 u4 u5 u6 u7 u8 u9 : Value) :
    Spl S w (((((((((((W.setCell ⟨b, i * 11, none⟩ u0).setCell ⟨b, i * 11 + 1, none⟩ u1).setCell ⟨b, i * 11 + 2, none⟩ u2).setCell ⟨b, i * 11 + 3, none⟩ u3).setCell ⟨b, i * 11 + 4, none⟩ u4).setCell ⟨b, i * 11 + 5, none⟩ u5).setCell ⟨b, i * 11 + 6, none⟩ u6).setCell ⟨b, i * 11 + 7, none⟩ u7).setCell ⟨b, i * 11 + 8, none⟩ u8).setCell ⟨b, i * 11 + 9, none⟩ u9).setCell ⟨b, i * 11 + 10, none⟩ (.slice none 0 0)) := by
  have n1 : (37 : TypeId) ≠ 30 := by decide
  have n2 : (37 : TypeId) = 46 → False := by decide
  have p0 := h.put hS hb u0 (j := i * 11) n1 (fun e => (n2 e).elim) (fun _ e => by omega)
  have b0 := Bk.put hb (i * 11) u0
  have p1 := p0.put hS b0 u1 (j := i * 11 + 1) n1 (fun e => (n2 e).elim) (fun _ e => by omega)
  have b1 := Bk.put b0 (i * 11 + 1) u1
  have p2 := p1.put hS b1 u2 (j := i * 11 + 2) n1 (fun e => (n2 e).elim) (fun _ e => by omega)
  have b2 := Bk.put b1 (i * 11 + 2) u2
  have p3 := p2.put hS b2 u3 (j := i * 11 + 3) n1 (fun e => (n2 e).elim) (fun _ e => by omega)
  have b3 := Bk.put b2 (i * 11 + 3) u3
  have p4 := p3.put hS b3 u4 (j := i * 11 + 4) n1 (fun e => (n2 e).elim) (fun _ e => by omega)
  have b4 := Bk.put b3 (i * 11 + 4) u4
  have p5 := p4.put hS b4 u5 (j := i * 11 + 5) n1 (fun e => (n2 e).elim) (fun _ e => by omega)
  have b5 := Bk.put b4 (i * 11 + 5) u5
  have p6 := p5.put hS b5 u6 (j := i * 11 + 6) n1 (fun e => (n2 e).elim) (fun _ e => by omega)
  have b6 := Bk.put b5 (i * 11 + 6) u6
  have p7 := p6.put hS b6 u7 (j := i * 11 + 7) n1 (fun e => (n2 e).elim) (fun _ e => by omega)
  have b7 := Bk.put b6 (i * 11 + 7) u7
  have p8 := p7.put hS b7 u8 (j := i * 11 + 8) n1 (fun e => (n2 e).elim) (fun _ e => by omega)
  have b8 := Bk.put b7 (i * 11 + 8) u8
  have p9 := p8.put hS b8 u9 (j := i * 11 + 9) n1 (fun e => (n2 e).elim) (fun _ e => by omega)
  have b9 := Bk.put b8 (i * 11 + 9) u9
  exact p9.put hS b9 (.slice none 0 0) (j := i * 11 + 10) n1 (fun e => (n2 e).elim) (fun _ e => rfl)
set_option maxHeartbeats 4000000 in
theorem spoil_any : ∀ (k : Nat) (u : Value) (l : List D) (W : World), SpO S w k u l → Spl S w W → Calls Try.prog 9 #[u] W fun e W' => e = .returned (.tuple #[]) ∧ Spl S w W'
  | 0, u, l, W, h, hS => by
    obtain ⟨rfl, A, C, rfl, _⟩ := h
    go_enter Try.func9, Try.ntmps9
    go_wp2_with fail
    go_loopw [7] (fun v wr => v = .int .i64 (0 : Nat) ∧ wr = W) (fun v _ => 0)
    case atStart => exact ⟨rfl, rfl⟩
    case round =>
      obtain ⟨rfl, rfl⟩ := hrel
      go_wp2_with fail
      go_end0
      exact ⟨rfl, hS⟩
  | k + 1, u, l, W, h, hS => by
    have IH := spoil_any k
    have h : LsR S w (SpO S w k) u l := h
    obtain ⟨A, C, hu, hlen⟩ := RowS.len h
    subst hu
    generalize hn0 : l.length = n at *
    have hn := Lib.hid hn0
    clear hn0
    have HL := Lib.hid h
    have HS0 := Lib.hid hS
    clear h hS
    go_enter Try.func9, Try.ntmps9
    go_wp2_with fail
    go_loopw [7] (fun v wr => ∃ i : Nat, v = .int .i64 i ∧ i ≤ n ∧ Spl S w wr) (fun v _ => n - (intOf v).toNat)
    case atStart => exact ⟨0, rfl, Nat.zero_le _, HS0.out⟩
    case round =>
      clear HS0
      obtain ⟨i, rfl, hin, HS⟩ := hrel
      by_cases hi2 : i < n
      · obtain ⟨g1, C1, v1, c, e1, hc1, hr1⟩ := LsR.at_ HL.out (i := i) (by have := hn.out; omega)
        injection e1 with e1 e2 e3
        subst e1 e3
        clear e2
        obtain ⟨B, C2, hv1, hlen2⟩ := hr1.len
        subst hv1
        generalize cxL c = X at *
        generalize hxn0 : X.length = xn at *
        have hxn := Lib.hid hxn0
        clear hxn0
        have HC1 := Lib.hid hc1
        have c1 := hc1 _ HS
        have hs0 := Lib.hid HS
        have HR1 := Lib.hid hr1
        clear HS hr1 hc1
        go_wp2_with fail
        go_loopw [16] (fun v wy => ∃ k : Nat, v = .int .i64 k ∧ k ≤ xn ∧ Spl S w wy) (fun v _ => xn - (intOf v).toNat)
        case atStart => exact ⟨0, rfl, Nat.zero_le _, hs0.out⟩
        case round =>
          clear hs0 c1
          obtain ⟨j, rfl, hj, HS⟩ := hrel
          by_cases hj2 : j < xn
          · have hr1 := HR1.out
            rw [← hxn.out] at hr1
            obtain ⟨g2, C3, v2, x, e2, s2, hc2, hr2⟩ := row2_at hr1 (i := j) (by have := hxn.out; omega)
            clear hr1
            injection e2 with e2 e4 e3
            subst e2 e3
            clear e4
            obtain ⟨B3, C4, hv2, hlen3⟩ := hr2.len
            subst hv2
            generalize cpL x = Y at *
            generalize hyn0 : Y.length = yn at *
            have hyn := Lib.hid hyn0
            clear hyn0
            have HC2 := Lib.hid hc2
            have c1 := HC1.out _ HS
            have c2 := (hc2 _ HS).1
            have hs0 := Lib.hid HS
            have HR2 := Lib.hid hr2
            clear HS hr2 hc2
            go_wp2_with fail
            go_loopw [29] (fun v wy => ∃ k : Nat, v = .int .i64 k ∧ k ≤ yn ∧ Spl S w wy) (fun v _ => yn - (intOf v).toNat)
            case atStart => exact ⟨0, rfl, Nat.zero_le _, hs0.out⟩
            case round =>
              clear hs0 c1 c2
              obtain ⟨m, rfl, hm, HS⟩ := hrel
              by_cases hm2 : m < yn
              · have hr2 := HR2.out
                rw [← hyn.out] at hr2
                obtain ⟨g3, C5, e5, s3, hc3⟩ := row3_at hr2 (i := m) (by have := hyn.out; omega) (SpO.nil k)
                clear hr2
                injection e5 with e5 e6 e7
                subst e5 e7
                clear e6
                have c1 := HC1.out _ HS
                have c2 := (HC2.out _ HS).1
                obtain ⟨o, of_, _, _, _, c3, hq⟩ := hc3 _ HS
                have HC3 := Lib.hid hc3
                have hs0 := Lib.hid HS
                have HQ := Lib.hid hq
                clear HS hc3 hq
                go_wp2_with (go_at_call 9; refine (IH _ _ _ HQ.out hs0.out).mono ?_; rintro e w7 ⟨rfl, HS⟩; have c1 := HC1.out _ HS; have c2 := (HC2.out _ HS).1; obtain ⟨_, _, cur', hb, hz, _, _⟩ := HC3.out _ HS; obtain ⟨z0, y0⟩ := hz 0 (by decide); obtain ⟨z1, y1⟩ := hz 1 (by decide); obtain ⟨z2, y2⟩ := hz 2 (by decide); obtain ⟨z3, y3⟩ := hz 3 (by decide); obtain ⟨z4, y4⟩ := hz 4 (by decide); obtain ⟨z5, y5⟩ := hz 5 (by decide); obtain ⟨z6, y6⟩ := hz 6 (by decide); obtain ⟨z7, y7⟩ := hz 7 (by decide); obtain ⟨z8, y8⟩ := hz 8 (by decide); obtain ⟨z9, y9⟩ := hz 9 (by decide); obtain ⟨z10, y10⟩ := hz 10 (by decide); have f0 := Bk.free hb (m * 11); have f1 := Bk.free hb (m * 11 + 1); have f2 := Bk.free hb (m * 11 + 2); have f3 := Bk.free hb (m * 11 + 3); have f4 := Bk.free hb (m * 11 + 4); have f5 := Bk.free hb (m * 11 + 5); have f6 := Bk.free hb (m * 11 + 6); have f7 := Bk.free hb (m * 11 + 7); have f8 := Bk.free hb (m * 11 + 8); have f9 := Bk.free hb (m * 11 + 9); have f10 := Bk.free hb (m * 11 + 10); rw [Nat.add_zero] at y0; have HB := Lib.hid hb; have HS := Lib.hid HS; clear hb hz)
                exact ⟨⟨m + 1, by simp, hm2, HS.out.put11 s3 HB.out _ _ _ _ _ _ _ _ _ _⟩, by simp [intOf]; omega⟩
              · obtain rfl : m = yn := by omega
                have c1 := HC1.out _ HS
                obtain ⟨_, ⟨z, y0⟩, cur', hb⟩ := HC2.out _ HS
                have f0 := Bk.free hb (j * 2)
                have HB := Lib.hid hb
                have HS := Lib.hid HS
                clear hb
                go_wp2_with fail
                exact ⟨⟨j + 1, by simp, hj2, HS.out.put s2 HB.out _ (by decide) (fun _ => by omega) (fun e => absurd e (by decide))⟩, by simp [intOf]; omega⟩
          · obtain rfl : j = xn := by omega
            have HS := Lib.hid HS
            go_wp2_with fail
            exact ⟨⟨i + 1, by simp, hi2, HS.out⟩, by simp [intOf]; omega⟩
      · obtain rfl : i = n := by omega
        have HB := Lib.hid HS
        clear HS
        go_wp2_with fail
        go_end0
        exact ⟨rfl, HB.out⟩
end Go.Av
namespace Go.Av
open Go.Proofs Go.RowKit Go.Proofs.Ytjoogeabdjdleaa
theorem gok8 (F : Nat → Nat → Prop) (w : World) : GOK F w :=
  ⟨fun g => .inl rfl, fun x hx => absurd (show x ∈ ([] : List (Nat × (D → Prop))) from hx) (by simp), fun x hx => absurd (show x ∈ ([] : List (Nat × Value)) from hx) (by simp)⟩
theorem old_ge {w w' : World} {v : Value} {d : D} (h : Den0 (old w) w v d) (hb : Ge w w') : Den0 (old w') w' v d := (den_ge h (old_lt w) hb).grow fun b o h => Nat.lt_of_lt_of_le h hb.size
theorem ev {f : FuncId} {xs : List D} {b : Bool} {r : List Room} (h : callL Try.prog ext82 f xs [] = some (.bool b, r, [])) {w : World} {vals : List Value} (hl : vals.length = xs.length)
    (hd : ∀ (i : Nat) (v : Value) (x : D), vals[i]? = some v → xs[i]? = some x → Den0 (old w) w v x) : Calls Try.prog f vals.toArray w fun e w' => e = .returned (.bool b) ∧ Ge w w' := by
  obtain ⟨N, hN⟩ := callL_aev h
  obtain ⟨_, hcall⟩ := aev_sound fineS ext82_ok N f _ [] _ _ _ hN
  refine (hcall vals w (old w) mu0 hl (fun i v x hv hx => .pure _ _ (hd i v x hv hx)) (fun i bx hb => by simp at hb) (given0 w) (old_lt w) (gok8 _ _)).mono fun e w' h => ?_
  obtain ⟨v, rfl, hb, hv⟩ := h.retD
  exact ⟨by rw [(hv (fun _ => 0) fun _ _ => 0).bool_], hb⟩
theorem two {F : Nat → Nat → Prop} {w : World} {u v : Value} {x y : D} (h1 : Den0 F w u x) (h2 : Den0 F w v y) : ∀ (i : Nat) (z : Value) (d : D), [u, v][i]? = some z → [x, y][i]? = some d → Den0 F w z d := by
  intro i z d hz hd
  match i, hz, hd with
  | 0, hz, hd => injection hz with hz; injection hd with hd; subst hz hd; exact h1
  | 1, hz, hd => injection hz with hz; injection hd with hd; subst hz hd; exact h2
theorem c4 {w : World} : Calls Try.prog 4 #[] w fun e w' => e = .returned (.bool true) ∧ Ge w w' := by
  obtain ⟨_, hcall⟩ := aev_sound fineS ext82_ok 60 4 [] [] _ _ _ speaks8
  refine (hcall [] w (old w) mu0 rfl (fun i v x hv hx => by simp at hv) (fun i bx hb => by simp at hb) (given0 w) (old_lt w) (gok8 _ _)).mono fun e w' h => ?_
  obtain ⟨v, rfl, hb, hv⟩ := h.retD
  exact ⟨by rw [(hv (fun _ => 0) fun _ _ => 0).bool_], hb⟩
theorem o12 : ∀ args, ext82 12 args [] = none := fun _ => rfl
theorem o5 : ∀ args, ext82 5 args [] = none := fun _ => rfl
theorem c5 {f : Nat} {l : List D} (h : lsOk 140737488355328 (smOk 140737488355328 f) l = true) {w : World} {v : Value} (hd : Den0 (old w) w v (.list l)) :
    Calls Try.prog 5 #[v, .int .i64 120] w fun e w' => e = .returned (.bool (decide (120 < cnt 120 (f + 1) l 0))) ∧ Ge w w' :=
  ev (vals := [v, .int .i64 120]) (great_L o12 o5 l 120 (by decide) h) rfl (two hd (.int _ _))
theorem c6 {k : Nat} {a b : List D} (ha : lsOk 1000 (smOk 1000 k) a = true) (hb : lsOk 1000 (smOk 1000 k) b = true) {w : World} {u v : Value} (h1 : Den0 (old w) w u (.list a)) (h2 : Den0 (old w) w v (.list b)) :
    Calls Try.prog 6 #[u, v] w fun e w' => e = .returned (.bool (sameLk (k + 1) a b)) ∧ Ge w w' := ev (vals := [u, v]) (same6_L own82 k a b ha hb) rfl (two h1 h2)
theorem c7 {k : Nat} {a b : List D} (ha : lsOk 1000 (smOk 1000 k) a = true) (hb : lsOk 1000 (smOk 1000 k) b = true) {w : World} {u v : Value} (h1 : Den0 (old w) w u (.list a)) (h2 : Den0 (old w) w v (.list b)) :
    Calls Try.prog 7 #[u, v] w fun e w' => e = .returned (.bool (sameLk (k + 1) a b)) ∧ Ge w w' := ev (vals := [u, v]) (same7_L own82 k a b ha hb) rfl (two h1 h2)
theorem law3_early {W : World} {f1 f2 : Nat} {a b : List D} {v0 v1 : Value} (h0 : Den0 (old W) W v0 (.list a)) (h1 : Den0 (old W) W v1 (.list b)) (oka : lsOk 140737488355328 (smOk 140737488355328 f1) a = true) (okb : lsOk 140737488355328 (smOk 140737488355328 f2) b = true)
    (h : decide (120 < cnt 120 (f1 + 1) a 0) = true ∨ decide (120 < cnt 120 (f2 + 1) b 0) = true) : Calls Try.prog 3 #[v0, v1] W fun e W' => e = .returned (.bool true) ∧ Ge W W' := by
  have C5 := fun w hd => @c5 f1 a oka w v0 hd
  have D5 := fun w hd => @c5 f2 b okb w v1 hd
  generalize decide (120 < cnt 120 (f1 + 1) a 0) = G1 at *
  generalize decide (120 < cnt 120 (f2 + 1) b 0) = G2 at *
  cases G1 with
  | true =>
    clear h
    go_enter Try.func3, Try.ntmps3
    go_wp2_with (first
      | (go_at_call 4; refine c4.mono ?_; rintro e w1 ⟨rfl, b1⟩)
      | (go_at_call 5; refine (C5 _ (old_ge h0 b1)).mono ?_; rintro e w2 ⟨rfl, b2⟩))
    go_ret
    exact ⟨rfl, b1.tr b2⟩
  | false =>
    obtain rfl : G2 = true := by simpa using h
    clear h
    have T1 : True := trivial
    go_enter Try.func3, Try.ntmps3
    go_wp2_with (first
      | (go_at_call 4; refine c4.mono ?_; rintro e w1 ⟨rfl, b1⟩)
      | (go_at_call 5; clear T1; refine (C5 _ (old_ge h0 b1)).mono ?_; rintro e w2 ⟨rfl, b2⟩; have b12 := b1.tr b2)
      | (go_at_call 5; refine (D5 _ (old_ge h1 b12)).mono ?_; rintro e w3 ⟨rfl, b3⟩))
    go_ret
    exact ⟨rfl, b12.tr b3⟩
theorem spl_den {S : Nat → Prop} {w W : World} {F : Nat → Nat → Prop} (h : Spl S w W) (hF : ∀ b o, F b o → ¬ S b) {v : Value} {d : D} (hd : Den0 F w v d) : Den0 F W v d :=
  hd.ext (S := S) ⟨h.os, h.tape, h.output, by rw [h.size]; exact Nat.le_refl _, fun b _ hs => h.out b hs, fun b o hf => hf, fun b o hf => by unfold World.cell?; rw [h.out b (hF b o hf)], fun b es c hf hm => (h.out b (hF b 0 hf)).trans hm⟩
set_option maxHeartbeats 4000000 in
theorem law3_late {W : World} {f1 f2 : Nat} {a b : List D} {v0 v1 : Value} (h0 : Den0 (old W) W v0 (.list a)) (h1 : Den0 (old W) W v1 (.list b)) (oka : lsOk 140737488355328 (smOk 140737488355328 f1) a = true) (okb : lsOk 140737488355328 (smOk 140737488355328 f2) b = true)
    (n1 : ¬ 120 < cnt 120 (f1 + 1) a 0) (n2 : ¬ 120 < cnt 120 (f2 + 1) b 0) : Calls Try.prog 3 #[v0, v1] W fun e W' => e = .returned (.bool true) ∧ Ge W W' := by
  have ka : lsOk 1000 (smOk 1000 41) a = true := cnt_small (most := 120) (by decide) (by decide) f1 a 0 41 rfl oka (by have : cnt 120 (f1 + 1) a ((0 : Nat) : Int) = cnt 120 (f1 + 1) a 0 := rfl; omega)
  have kb : lsOk 1000 (smOk 1000 41) b = true := cnt_small (most := 120) (by decide) (by decide) f2 b 0 41 rfl okb (by have : cnt 120 (f2 + 1) b ((0 : Nat) : Int) = cnt 120 (f2 + 1) b 0 := rfl; omega)
  have C5 := fun w hd => @c5 f1 a oka w v0 hd
  have D5 := fun w hd => @c5 f2 b okb w v1 hd
  rw [decide_eq_false n1] at C5
  rw [decide_eq_false n2] at D5
  have C6 := fun w h0 h1 => @c6 41 a b ka kb w v0 v1 h0 h1
  have D6 := fun w h0 => @c6 41 a a ka ka w v0 v0 h0 h0
  have C7 := fun w h0 h1 => @c7 41 a b ka kb w v0 v1 h0 h1
  have D7 := fun w u h => @c7 41 a a ka ka w u v0 h
  rw [sameLk_refl] at D6
  rw [show sameLk (41 + 1) a a = true from sameLk_refl _ _] at D7
  generalize sameLk (41 + 1) a b = R at *
  have hRR : (R != R) = false := by simp
  have T1 : True := trivial
  have T2 : True := trivial
  have T3 : True := trivial
  have T4 : True := trivial
  have T5 : True := trivial
  have KA := Lib.hid ka
  clear ka kb oka okb n1 n2
  go_enter Try.func3, Try.ntmps3
  go_wp2_with (first
    | (go_at_call 4; refine c4.mono ?_; rintro e w1 ⟨rfl, b1⟩)
    | (go_at_call 5; clear T1; refine (C5 _ (old_ge h0 b1)).mono ?_; rintro e w2 ⟨rfl, b2⟩; have b12 := b1.tr b2)
    | (go_at_call 5; refine (D5 _ (old_ge h1 b12)).mono ?_; rintro e w3 ⟨rfl, b3⟩; have b13 := b12.tr b3)
    | (go_at_call 6; clear T2; refine (C6 _ (old_ge h0 b13) (old_ge h1 b13)).mono ?_; rintro e w4 ⟨rfl, b4⟩; have b14 := b13.tr b4)
    | (go_at_call 7; clear T3; refine (C7 _ (old_ge h0 b14) (old_ge h1 b14)).mono ?_; rintro e w5 ⟨rfl, b5⟩; have b15 := b14.tr b5)
    | (go_at_call 6; refine (D6 _ (old_ge h0 b15)).mono ?_; rintro e w6 ⟨rfl, b6⟩; have b16 := b15.tr b6)
    | (go_at_call 8; clear T4; refine (copy_all 41 a (old w6) w6 _ (old_lt w6) (old_ge h0 b16) KA.out).mono ?_; rintro e w7 ⟨ux, rfl, b7, sx⟩; have b17 := b16.tr b7; have dx := (SpO.den (F := old w7) KA.out (fun b o (h : Sn w6.heap.size w7.heap.size b) => h.2) sx).2; have SX := Lib.hid sx; clear sx)
    | (go_at_call 8; refine (copy_all 41 a (old w7) w7 _ (old_lt w7) dx KA.out).mono ?_; rintro e w8 ⟨uy, rfl, b8, sy⟩; have b18 := b17.tr b8; have SY := Lib.hid sy; clear sy)
    | (go_at_call 7; clear T5; refine (D7 _ _ (old_ge dx b8) (old_ge h0 b18)).mono ?_; rintro e w9 ⟨rfl, b9⟩; have b19 := b18.tr b9)
    | (go_at_call 9; refine (spoil_any (S := Sn w6.heap.size w7.heap.size) (w := w9) 42 ux a w9 (SpO.mono (fun _ h => h) (fun b hb => (b9.block b (Nat.lt_of_lt_of_le hb.2 b8.size)).trans (b8.block b hb.2)) SX.out) (Spl.refl _ _)).mono ?_; rintro e w10 ⟨rfl, hsp⟩; have z6 := b16.size; have h0' : Den0 (old w10) w10 v0 (.list a) := (spl_den hsp (fun b o (h : b < W.heap.size) hs => by have := hs.1; omega) (den_ge h0 (old_lt W) b19)).grow fun b o (h : b < W.heap.size) => (by show b < w10.heap.size; have := hsp.size; have := b19.size; omega); have hy : Den0 (old w10) w10 uy (.list a) := (SpO.den (F := old w10) KA.out (fun b o (h : Sn w7.heap.size w8.heap.size b) => (by show b < w10.heap.size; have := hsp.size; have := b9.size; have := h.2; omega)) (SpO.mono (fun _ h => h) (fun b hb => (hsp.out b (fun hs => by have := hs.2; have := hb.1; omega)).trans (b9.block b hb.2)) SY.out)).2; have g10 : Ge W w10 := ⟨hsp.os.trans b19.os, hsp.tape.trans b19.tape, hsp.output.trans b19.output, (by have := hsp.size; have := b19.size; omega), fun b hb => (hsp.out b (fun hs => by have := hs.1; omega)).trans (b19.block b hb)⟩)
    | (go_at_call 7; refine (D7 _ _ hy h0').mono ?_; rintro e w11 ⟨rfl, b11⟩))
  go_ret
  exact ⟨rfl, g10.tr b11⟩
end Go.Av
namespace Go.Proofs.Ytjoogeabdjdleaa
open Go.RowKit Go.Av Go.ChangeShapes Go.WideShapes
theorem own : ownKnob Try.prog.godebug = none := by kernel_rfl
theorem laidOut : laidOutB Try.prog = true := by kernel_rfl
theorem reach_le : reachBytes ≤ 140737488355328 := by decide
section
variable {P : Program}
theorem str_ok {t : TypeId} (hu : P.underlying t = some .string) {d : D} (h : TyD P t d) : ∃ s, d = .str s ∧ s.length ≤ 140737488355328 := by
  cases h with
  | str _ l _ hl => exact ⟨_, rfl, Nat.le_trans hl reach_le⟩
  | bool _ b h => rw [hu] at h; cases h
  | int _ k n h _ => rw [hu] at h; cases h
  | list _ e es h _ _ => rw [hu] at h; cases h
  | agg _ fs ds h _ _ => rw [hu] at h; cases h
theorem int_ok {t : TypeId} (hu : P.underlying t = some (.int .i64)) {d : D} (h : TyD P t d) : ∃ z : Int, d = .int .i64 z ∧ -9223372036854775808 ≤ z ∧ z < 9223372036854775808 := by
  cases h with
  | int _ k n h hw =>
    rw [hu] at h
    cases h
    have : (Lit.int .i64 n).wf = true := hw
    simp [Lit.wf, IntKind.min, IntKind.max, IntKind.signed, IntKind.bits] at this
    exact ⟨n, rfl, by omega, by omega⟩
  | bool _ b h => rw [hu] at h; cases h
  | str _ l h hl => rw [hu] at h; cases h
  | list _ e es h _ _ => rw [hu] at h; cases h
  | agg _ fs ds h _ _ => rw [hu] at h; cases h
theorem bool_ok {t : TypeId} (hu : P.underlying t = some .bool) {d : D} (h : TyD P t d) : ∃ b, d = .bool b := by
  cases h with
  | bool _ b h => exact ⟨b, rfl⟩
  | int _ k n h _ => rw [hu] at h; cases h
  | str _ l h hl => rw [hu] at h; cases h
  | list _ e es h _ _ => rw [hu] at h; cases h
  | agg _ fs ds h _ _ => rw [hu] at h; cases h
theorem agg_ok {t : TypeId} {fs : Array Field} (hu : P.underlying t = some (.struct fs)) {d : D} (h : TyD P t d) : ∃ ds : List D, d = .agg (ds.flatMap dcells) ∧ ds.length = fs.size ∧ ∀ (i : Nat) (f : Field) (d : D), fs[i]? = some f → ds[i]? = some d → TyD P f.type d := by
  cases h with
  | agg _ fs' ds h hl hds =>
    rw [hu] at h
    cases h
    exact ⟨ds, rfl, hl, hds⟩
  | bool _ b h => rw [hu] at h; cases h
  | int _ k n h _ => rw [hu] at h; cases h
  | str _ l h hl => rw [hu] at h; cases h
  | list _ e es h _ _ => rw [hu] at h; cases h
def fieldTs (P : Program) (t : TypeId) : Option (List TypeId) := match P.underlying t with | some (.struct fs) => some (fs.toList.map (·.type)) | _ => none
theorem agg_ok' {t : TypeId} {ts : List TypeId} (hu : fieldTs P t = some ts) {d : D} (h : TyD P t d) : ∃ ds : List D, d = .agg (ds.flatMap dcells) ∧ ds.length = ts.length ∧ ∀ (i : Nat) (u : TypeId) (d : D), ts[i]? = some u → ds[i]? = some d → TyD P u d := by
  unfold fieldTs at hu
  split at hu
  · rename_i fs hf
    injection hu with hu
    subst hu
    obtain ⟨ds, h1, h2, h3⟩ := agg_ok hf h
    refine ⟨ds, h1, by simpa using h2, fun i u d hi hd => ?_⟩
    rw [List.getElem?_map] at hi
    obtain ⟨f, hf1, rfl⟩ := Option.map_eq_some_iff.1 hi
    exact h3 i f d (by simpa using hf1) hd
  · cases hu
end
theorem le_of_mul {n b m : Nat} (h : n * b ≤ m) (hb : 0 < b) : n ≤ m := Nat.le_trans (Nat.le_mul_of_pos_right n hb) h
theorem max_of {α : Type} {R : α → Nat → Prop} (hup : ∀ a i j, R a i → i ≤ j → R a j) : ∀ (l : List α), (∀ a ∈ l, ∃ f, R a f) → ∃ f, ∀ a ∈ l, R a f
  | [], _ => ⟨0, fun a h => by cases h⟩
  | x :: r, h => by
    obtain ⟨f1, h1⟩ := h x (List.mem_cons_self ..)
    obtain ⟨f2, h2⟩ := max_of hup r fun a ha => h a (List.mem_cons_of_mem _ ha)
    refine ⟨max f1 f2, fun a ha => ?_⟩
    rcases List.mem_cons.1 ha with rfl | ha
    · exact hup _ _ _ h1 (Nat.le_max_left ..)
    · exact hup _ _ _ (h2 a ha) (Nat.le_max_right ..)
abbrev MB : Nat := 140737488355328
abbrev Sel (t : TypeId) (d : D) (f : Nat) : Prop :=
  (t = 37 → smOk MB f d = true) ∧ (t = 46 → cpOk MB (smOk MB f) d = true) ∧ (t = 30 → cxOk MB (smOk MB f) d = true) ∧
  (t = 44 → ∃ l, d = .list l ∧ l.length ≤ MB ∧ ∀ s ∈ l, smOk MB f s = true) ∧ (t = 28 → ∃ l, d = .list l ∧ l.length ≤ MB ∧ ∀ s ∈ l, cpOk MB (smOk MB f) s = true) ∧ (t = 22 → ∃ l, d = .list l ∧ lsOk MB (smOk MB f) l = true)
theorem Sel.up {t : TypeId} {d : D} {i j : Nat} (h : Sel t d i) (hij : i ≤ j) : Sel t d j := by
  obtain ⟨h1, h2, h3, h4, h5, h6⟩ := h
  have hm : ∀ d, smOk MB i d = true → smOk MB j d = true := fun d hd => smOk_up i d hd j hij
  refine ⟨fun e => hm _ (h1 e), fun e => cp_mono hm (h2 e), fun e => cx_mono hm (h3 e), fun e => ?_, fun e => ?_, fun e => ?_⟩
  · obtain ⟨l, a, b, c⟩ := h4 e
    exact ⟨l, a, b, fun s hs => hm _ (c s hs)⟩
  · obtain ⟨l, a, b, c⟩ := h5 e
    exact ⟨l, a, b, fun s hs => cp_mono hm (c s hs)⟩
  · obtain ⟨l, a, b⟩ := h6 e
    exact ⟨l, a, ls_mono hm b⟩
theorem fts (t : TypeId) (ts : List TypeId) {fs : Array Field} (hu : Try.prog.underlying t = some (.struct fs)) (h : fieldTs Try.prog t = some ts) : fs.toList.map (·.type) = ts := by
  unfold fieldTs at h
  rw [hu] at h
  exact Option.some.inj h
theorem sel_ok {t : TypeId} {d : D} (h : TyD Try.prog t d) : ∃ f, Sel t d f := by
  induction h with
  | bool t b hu => exact ⟨0, fun e => (by subst e; rw [show Try.prog.underlying 37 = _ from Try.underlying37] at hu; cases hu), fun e => (by subst e; rw [show Try.prog.underlying 46 = _ from Try.underlying46] at hu; cases hu), fun e => (by subst e; rw [show Try.prog.underlying 30 = _ from Try.underlying30] at hu; cases hu), fun e => (by subst e; rw [Try.underlying44] at hu; cases hu), fun e => (by subst e; rw [Try.underlying28] at hu; cases hu), fun e => (by subst e; rw [Try.underlying22] at hu; cases hu)⟩
  | int t k n hu _ => exact ⟨0, fun e => (by subst e; rw [Try.underlying37] at hu; cases hu), fun e => (by subst e; rw [Try.underlying46] at hu; cases hu), fun e => (by subst e; rw [Try.underlying30] at hu; cases hu), fun e => (by subst e; rw [Try.underlying44] at hu; cases hu), fun e => (by subst e; rw [Try.underlying28] at hu; cases hu), fun e => (by subst e; rw [Try.underlying22] at hu; cases hu)⟩
  | str t l hu _ => exact ⟨0, fun e => (by subst e; rw [Try.underlying37] at hu; cases hu), fun e => (by subst e; rw [Try.underlying46] at hu; cases hu), fun e => (by subst e; rw [Try.underlying30] at hu; cases hu), fun e => (by subst e; rw [Try.underlying44] at hu; cases hu), fun e => (by subst e; rw [Try.underlying28] at hu; cases hu), fun e => (by subst e; rw [Try.underlying22] at hu; cases hu)⟩
  | list t e es hu hl _ ih =>
    obtain ⟨f, hf⟩ := max_of (R := fun d f => Sel e d f) (fun a i j h hij => h.up hij) es ih
    have hl' : es.length * Try.prog.bytesOf e ≤ 140737488355328 := Nat.le_trans hl reach_le
    refine ⟨f, fun e => (by subst e; rw [Try.underlying37] at hu; cases hu), fun e => (by subst e; rw [Try.underlying46] at hu; cases hu), fun e => (by subst e; rw [Try.underlying30] at hu; cases hu), fun e0 => ?_, fun e0 => ?_, fun e0 => ?_⟩
    · subst e0
      rw [Try.underlying44] at hu
      cases hu
      exact ⟨es, rfl, le_of_mul hl' (by decide +kernel), fun s hs => (hf s hs).1 rfl⟩
    · subst e0
      rw [Try.underlying28] at hu
      cases hu
      exact ⟨es, rfl, le_of_mul hl' (by decide +kernel), fun s hs => (hf s hs).2.1 rfl⟩
    · subst e0
      rw [Try.underlying22] at hu
      cases hu
      refine ⟨es, rfl, ?_⟩
      simp only [lsOk, lenB, Bool.and_eq_true, decide_eq_true_eq, List.all_eq_true]
      exact ⟨le_of_mul hl' (by decide +kernel), fun s hs => (hf s hs).2.2.1 rfl⟩
  | agg t fs ds hu hl hds ih =>
    have hty : TyD Try.prog t (.agg (ds.flatMap dcells)) := .agg t fs ds hu hl hds
    have at_ : ∀ (ts : List TypeId), fieldTs Try.prog t = some ts → ds.length = ts.length ∧ ∀ (i : Nat) (u : TypeId) (d : D), ts[i]? = some u → ds[i]? = some d → TyD Try.prog u d ∧ ∃ f, Sel u d f := by
      intro ts hts
      have e := fts t ts hu hts
      refine ⟨by rw [hl, ← e]; simp, fun i u d hi hd => ?_⟩
      rw [← e, List.getElem?_map] at hi
      obtain ⟨f, hf1, rfl⟩ := Option.map_eq_some_iff.1 hi
      exact ⟨hds i f d (by simpa using hf1) hd, ih i f d (by simpa using hf1) hd⟩
    by_cases t42 : t = 37
    · subst t42
      obtain ⟨hlen, hh⟩ := at_ [3, 3, 9, 9, 33, 3, 35, 22] (by kernel_rfl)
      match ds, hlen with
      | [x0, x1, x2, x3, x4, x5, x6, x7], _ =>
        obtain ⟨kd, rfl, _⟩ := int_ok Try.underlying3 (hh 0 _ _ rfl rfl).1
        obtain ⟨ns, rfl, _⟩ := int_ok Try.underlying3 (hh 1 _ _ rfl rfl).1
        obtain ⟨pre, rfl, h2⟩ := str_ok Try.underlying9 (hh 2 _ _ rfl rfl).1
        obtain ⟨nm, rfl, h3⟩ := str_ok Try.underlying9 (hh 3 _ _ rfl rfl).1
        obtain ⟨cd, rfl, c1, c2⟩ := agg_ok' (ts := [3, 9, 4]) (by kernel_rfl) (hh 4 _ _ rfl rfl).1
        obtain ⟨mk, rfl, _⟩ := int_ok Try.underlying3 (hh 5 _ _ rfl rfl).1
        obtain ⟨ad, rfl, a1, a2⟩ := agg_ok' (ts := [3, 3]) (by kernel_rfl) (hh 6 _ _ rfl rfl).1
        obtain ⟨f, hf⟩ := (hh 7 _ _ rfl rfl).2
        obtain ⟨l, rfl, hls⟩ := hf.2.2.2.2.2 rfl
        match cd, c1, ad, a1 with
        | [y0, y1, y2], _, [z0, z1], _ =>
          obtain ⟨op, rfl, _⟩ := int_ok Try.underlying3 (c2 0 _ _ rfl rfl)
          obtain ⟨tx, rfl, h5⟩ := str_ok Try.underlying9 (c2 1 _ _ rfl rfl)
          obtain ⟨fold, rfl⟩ := bool_ok Try.underlying4 (c2 2 _ _ rfl rfl)
          obtain ⟨a, rfl, _⟩ := int_ok Try.underlying3 (a2 0 _ _ rfl rfl)
          obtain ⟨b, rfl, _⟩ := int_ok Try.underlying3 (a2 1 _ _ rfl rfl)
          refine ⟨f + 1, fun _ => ?_, fun e => (by cases e), fun e => (by cases e), fun e => (by cases e), fun e => (by cases e), fun e => (by cases e)⟩
          show (decide (pre.length ≤ MB) && decide (nm.length ≤ MB) && decide (tx.length ≤ MB) && lsOk MB (smOk MB f) l) = true
          simp only [Bool.and_eq_true, decide_eq_true_eq]
          exact ⟨⟨⟨h2, h3⟩, h5⟩, hls⟩
    · by_cases t45 : t = 46
      · subst t45
        obtain ⟨hlen, hh⟩ := at_ [3, 44] (by kernel_rfl)
        match ds, hlen with
        | [x0, x1], _ =>
          obtain ⟨cc, rfl, _⟩ := int_ok Try.underlying3 (hh 0 _ _ rfl rfl).1
          obtain ⟨f, hf⟩ := (hh 1 _ _ rfl rfl).2
          obtain ⟨l, rfl, h1, h2⟩ := hf.2.2.2.1 rfl
          refine ⟨f, fun e => (by cases e), fun _ => ?_, fun e => (by cases e), fun e => (by cases e), fun e => (by cases e), fun e => (by cases e)⟩
          show (decide (l.length ≤ MB) && l.all (smOk MB f)) = true
          simp only [Bool.and_eq_true, decide_eq_true_eq, List.all_eq_true]
          exact ⟨h1, h2⟩
      · by_cases t48 : t = 30
        · subst t48
          obtain ⟨hlen, hh⟩ := at_ [28] (by kernel_rfl)
          match ds, hlen with
          | [x0], _ =>
            obtain ⟨f, hf⟩ := (hh 0 _ _ rfl rfl).2
            obtain ⟨l, rfl, h1, h2⟩ := hf.2.2.2.2.1 rfl
            refine ⟨f, fun e => (by cases e), fun e => (by cases e), fun _ => ?_, fun e => (by cases e), fun e => (by cases e), fun e => (by cases e)⟩
            show (decide (l.length ≤ MB) && l.all (cpOk MB (smOk MB f))) = true
            simp only [Bool.and_eq_true, decide_eq_true_eq, List.all_eq_true]
            exact ⟨h1, h2⟩
        · refine ⟨0, fun e => absurd e t42, fun e => absurd e t45, fun e => absurd e t48, fun e => ?_, fun e => ?_, fun e => ?_⟩
          · subst e; rw [Try.underlying44] at hu; cases hu
          · subst e; rw [Try.underlying28] at hu; cases hu
          · subst e; rw [Try.underlying22] at hu; cases hu
theorem sels_ok {d : D} (h : TyD Try.prog 22 d) : ∃ f l, d = .list l ∧ lsOk MB (smOk MB f) l = true := by
  obtain ⟨f, hf⟩ := sel_ok h
  obtain ⟨l, h1, h2⟩ := hf.2.2.2.2.2 rfl
  exact ⟨f, l, h1, h2⟩
theorem lift_plain2 {H : Type} {enc : TypeId × Value → H} {C : Checked} {os : Os} {f : FuncId} {fn : Func} {s : ChangeSpec} {conds : List PathCond} {tb : TypeId} (us : List TypeId)
    (own : ownKnob C.prog.godebug = none) (started : os.Started) (noInit : C.prog.inits.idxOf? f = none) (hfn : C.prog.funcs[f]? = some fn)
    (witness : ∃ (w : World) (tape : Tape) (i : Input), w.os = os ∧ (w.forCall tape i).Shaped C.prog ∧ i.vars = [] ∧ Input.okWide C.prog (w.forCall tape i) .any w.heap.size f i ∧
      s.pre6 enc C.prog fn conds false (w.forCall tape i).memory i.args ∧ ({} : Assume).holds C.prog (lone (Frame.enter C.prog f i.args .normal) [] (w.forCall tape i)))
    (laidOut : laidOutB C.prog = true) (hts : okTs C.prog us = true) (hT : (fn.params.toList.all fun t => us.contains t) = true) (hread : (fn.params.toList.all fun t => C.prog.readableRec t && decide (t < C.prog.types.size)) = true)
    (hres : fn.resultTypes = #[tb]) (hbool : C.prog.underlying tb = some .bool) (hvars : s.vars = [])
    (hs : ∀ ds : List (DataW H), ds.length = fn.params.toList.length → s.fn H ds = { results := [.lit (.bool true)], args := ds })
    (law : ∀ (W : World) (vals : List Value) (xs : List D), xs.length = fn.params.toList.length → vals.length = fn.params.toList.length → Pw (TyD C.prog) fn.params.toList xs → Pw (Den0 (old W) W) vals xs →
      Calls C.prog f vals.toArray W fun e W' => e = .returned (.bool true) ∧ Below W.heap.size W W') :
    ReturnsInHanded {} C os f .any (s.pre6 enc C.prog fn conds false) (s.post enc C.prog fn false true false false) := by
  refine returnsInHanded_of_change_shaped own started noInit hfn witness ?_
  intro W base args ds gs before hval0 hW hcnd hwt hsh _
  have hval : ∀ (j : Nat) t v, fn.params.toList[j]? = some t → args.toList[j]? = some v → Value.okWide C.prog W .any base t v := fun j t v h1 h2 => hval0 j t v (by simpa using h1) (by simpa using h2)
  have hW' := hW
  obtain ⟨p, q, hA, hV, rfl, hfz, hnd⟩ := hW
  rw [hvars] at hV
  obtain ⟨rfl, rfl⟩ := trodVars_none hV
  obtain ⟨l1, l2⟩ := trodAll_len hA
  obtain ⟨xs, a1, a2, a3⟩ := trodAll_den2 hts hA hval (fun t ht => by simpa using List.all_eq_true.1 hT t ht) fun m hm => of_decide_eq_true (List.all_eq_true.1 hwt m (weights_pre hm))
  have hcalls := law W args.toList xs (by omega) (by omega) a2 a3
  rw [Array.toArray_toList] at hcalls
  refine hcalls.mono ?_
  rintro e W' ⟨rfl, hb⟩
  obtain ⟨pa, hpa⟩ := trodAll_stay laidOut hb hread hA
  have hfnd : s.fn H (ds ++ []) = { results := [.lit (.bool true)], args := ds } := by rw [List.append_nil]; exact hs ds l2
  refine ⟨_, rfl, ds, [], _, [], pa, [], hW', ?_, ?_, ?_, hb.frame _, fun h => by cases h⟩
  · rw [hfnd, hres]
    exact trodAll_mk1 (shut_bool hbool _)
  · rw [hfnd]
    exact hpa
  · rw [hfnd, hvars]
    rfl
def us8 : List TypeId := [3, 4, 9, 33, 35, 37, 44, 46, 28, 30, 22]
theorem us8_ok : okTs Try.prog us8 = true := by kernel_rfl
end Go.Proofs.Ytjoogeabdjdleaa
