/- The evaluator, in one text: over any program; no conditions but those that each law names. -/
import Derived.Test.YtdbimjpjpgfeeaaDoorAvsc
set_option linter.unusedSimpArgs false
set_option linter.unusedVariables false
set_option linter.unusedSectionVars false
/- Chapter 11: which nodes are right, as dom says. -/
set_option linter.unusedSimpArgs false
set_option linter.unusedVariables false
set_option linter.unusedSectionVars false
set_option maxRecDepth 100000
namespace Go.Av
open Go.Proofs
variable {chk : List D → Bool}
def kindAt (ahead : List Nd) (p : Int) : Int := match ahead[p.toNat]? with | some n => n.k | none => 0
def parOk (ahead : List Nd) (p : Int) : Bool := !(decide (p < -1)) && (!(decide ((ahead.length : Int) ≤ p)) && !(decide (0 ≤ p) && (kindAt ahead p != 1)))
def txtF (n : Nd) : Bool := n.sp == [] && (n.nm == [] && (((n.at_.length : Int) == 0) && (((n.st.length : Int) == 0) && goodB n.tx)))
def elmF (n : Nd) : Bool := n.tx == [] && (!(n.nm == []) && (goodB n.nm && (goodB n.sp && (attrsB n.at_ && statesB n.st))))
def bodyF (n : Nd) : Bool := if n.k = 1 then elmF n else if n.k = 2 then (if n.p < 0 then false else txtF n) else if n.k = 3 then txtF n else false
def nodeF (ahead : List Nd) (n : Nd) : Bool := parOk ahead n.p && bodyF n
def BigN (n : Nd) : Prop := n.at_.length ≤ 140737488355328 ∧ n.st.length ≤ 140737488355328 ∧ n.nm.length ≤ 140737488355328 ∧ n.sp.length ≤ 140737488355328 ∧ n.tx.length ≤ 140737488355328 ∧ ∀ a ∈ n.at_, BigA a
def SmallN (n : Nd) : Prop := n.at_.length ≤ 1000000 ∧ n.st.length ≤ 1000000 ∧ n.nm.length ≤ 1000000 ∧ n.sp.length ≤ 1000000 ∧ n.tx.length ≤ 1000000 ∧ ∀ a ∈ n.at_, SmallA a
theorem kind_at {ahead : List Nd} {p : Int} (h0 : 0 ≤ p) (h1 : p < ahead.length) : ∃ p' k' sp nm la ls tx, (ahead.map Nd.d).getD p.toNat .bad = .agg [.int .i64 p', .int .i64 k', .str sp, .str nm, .list la, .list ls, .str tx] ∧ kindAt ahead p = k' := by
  obtain ⟨x, hx⟩ := some_at (show p.toNat < ahead.length by omega)
  refine ⟨x.p, x.k, x.sp, x.nm, x.at_.map At.d, x.st.map .str, x.tx, getD_map (f := Nd.d) hx, ?_⟩
  unfold kindAt
  rw [hx]
set_option maxHeartbeats 16000000 in
theorem body_L (ahead : List Nd) (n : Nd) (hn : SmallN n) (h : parOk ahead n.p = true) : callL Tryd.prog (ext11b chk) 42 [.list (ahead.map Nd.d), n.d] [] = some (.bool (bodyF n), [.no], []) := by
  obtain ⟨p, k, sp, nm, la, ls, tx⟩ := n
  obtain ⟨s1, s2, s3, s4, s5, s6⟩ := hn
  have q1 := dright_L (chk := chk) nm s3
  have q2 := dright_L (chk := chk) sp s4
  have q3 := dright_L (chk := chk) tx s5
  have q4 := attrs_L (chk := chk) la s1 s6
  have q5 := states_L (chk := chk) ls s2
  have lN := lenM ahead Nd.d
  have lA := lenM la At.d
  have lS := lenM ls D.str
  clear s1 s2 s3 s4 s5 s6
  unfold parOk at h
  simp only [Bool.and_eq_true, Bool.not_eq_eq_eq_not, Bool.not_true, decide_eq_false_iff_not] at h
  obtain ⟨h1, h2, h3⟩ := h
  simp only [bodyF, elmF, txtF, Nd.d]
  generalize goodB nm = e1 at *
  generalize goodB sp = e2 at *
  generalize goodB tx = e3 at *
  generalize attrsB la = e4 at *
  generalize statesB ls = e5 at *
  generalize la.map At.d = LA at *
  generalize ls.map D.str = LS at *
  by_cases h0 : 0 ≤ p
  · obtain ⟨p', k', sp', nm', la', ls', tx', ha, hk⟩ := kind_at (ahead := ahead) h0 (by omega)
    rw [hk] at h3
    have h5 : ¬ p < 0 := by omega
    have h4 : (k' != 1) = false := by simpa [h0] using h3
    clear h3 hk
    generalize ahead.map Nd.d = AH at *
    have gp : p < AH.length := by omega
    have h2' : ¬ (AH.length : Int) ≤ p := by omega
    clear lN h2
    by_cases k1 : k = 1
    · subst k1
      cases c1 : (tx == []) with
      | false =>
        refine callK (m := 93) (res := [4]) (rs := [.tmp 4]) rfl Tryd.func42 rfl rfl rfl rfl rfl ?_
        repeat' (first
    | simp only [*, go_seq, go_cond, go_block, go_skip, go_exit, go_retc, go_xcode, go_xblk, go_region, go_ops_nil, go_ops, okG_some, okB_some, gwD_bool, cwD_bool, gw_true, gw_false, guardG, opG, isPtr, inB, sval, stake, eats, eaters, get, cval, cval1, croom, St.taken, put_slot, put_room, put_box, dem_none, dem_slot, dem_box, setBox_slot, setBox_room, setBox_box, entry_slot, entry_room, entry_box, entry_ctr, endQ, endR, endV, rvars, rvar, room1, ↓reduceIte, Nat.reduceEqDiff, Nat.reduceLT, reduceCtorEq, decide_true, decide_false, List.filterMap_cons, List.filterMap_nil, Option.bind_some, Option.map_some, List.getElem?_cons_zero, List.getElem?_cons_succ, List.getD_cons_zero, List.getD_cons_succ, List.contains_cons, List.contains_nil, List.map_cons, List.map_nil, beq_self_eq_true, Bool.or_false, Bool.and_true, Nat.reduceBEq, Bool.false_eq_true, dbin, dIntBin, okR, callG, row11, frz11, frzOf_def, frz_nil, beq_true, pureB, leaf, leafN, List.all_cons, List.all_nil, List.nil_append, List.take_nil, List.range_zero, List.length_nil, List.length_cons, List.getElem?_nil, dcells, Nat.zero_add, Nat.reduceAdd, stepBox, Bool.false_and, and_self, Nat.add_zero, ge_iff_le, dStrBin, dp3, dp9, ty26, fp26_0, fa26_1, fp26_1, fp26_6, ia22, len22]
    | (refine drW_intro (by kernel_rfl) ?_)
    | (refine gw_intro (fun h => ?_) (fun h => ?_) <;> (try simp only [beq_true, beq_false, Bool.not_eq_eq_eq_not, Bool.not_true, Bool.not_false, Bool.not_not, decide_eq_true_eq, decide_eq_false_iff_not, ge_iff_le, gt_iff_lt] at h)))
      | true =>
        cases c2 : (nm == []) with
        | true =>
          refine callK (m := 93) (res := [4]) (rs := [.tmp 4]) rfl Tryd.func42 rfl rfl rfl rfl rfl ?_
          repeat' (first
    | simp only [*, go_seq, go_cond, go_block, go_skip, go_exit, go_retc, go_xcode, go_xblk, go_region, go_ops_nil, go_ops, okG_some, okB_some, gwD_bool, cwD_bool, gw_true, gw_false, guardG, opG, isPtr, inB, sval, stake, eats, eaters, get, cval, cval1, croom, St.taken, put_slot, put_room, put_box, dem_none, dem_slot, dem_box, setBox_slot, setBox_room, setBox_box, entry_slot, entry_room, entry_box, entry_ctr, endQ, endR, endV, rvars, rvar, room1, ↓reduceIte, Nat.reduceEqDiff, Nat.reduceLT, reduceCtorEq, decide_true, decide_false, List.filterMap_cons, List.filterMap_nil, Option.bind_some, Option.map_some, List.getElem?_cons_zero, List.getElem?_cons_succ, List.getD_cons_zero, List.getD_cons_succ, List.contains_cons, List.contains_nil, List.map_cons, List.map_nil, beq_self_eq_true, Bool.or_false, Bool.and_true, Nat.reduceBEq, Bool.false_eq_true, dbin, dIntBin, okR, callG, row11, frz11, frzOf_def, frz_nil, beq_true, Bool.not_true, pureB, leaf, leafN, List.all_cons, List.all_nil, List.nil_append, List.take_nil, List.range_zero, List.length_nil, List.length_cons, List.getElem?_nil, dcells, Nat.zero_add, Nat.reduceAdd, stepBox, Bool.and_false, Bool.false_and, and_self, Nat.add_zero, ge_iff_le, dStrBin, dp3, dp9, ty26, fp26_0, fa26_1, fp26_1, fp26_3, fp26_6, ia22, len22]
    | (refine drW_intro (by kernel_rfl) ?_)
    | (refine gw_intro (fun h => ?_) (fun h => ?_) <;> (try simp only [beq_true, beq_false, Bool.not_eq_eq_eq_not, Bool.not_true, Bool.not_false, Bool.not_not, decide_eq_true_eq, decide_eq_false_iff_not, ge_iff_le, gt_iff_lt] at h)))
        | false =>
          cases e1 with
          | false =>
            refine callK (m := 93) (res := [4]) (rs := [.tmp 4]) rfl Tryd.func42 rfl rfl rfl rfl rfl ?_
            repeat' (first
    | simp only [*, go_seq, go_cond, go_block, go_skip, go_exit, go_retc, go_xcode, go_xblk, go_region, go_ops_nil, go_ops, okG_some, okB_some, gwD_bool, cwD_bool, gw_true, gw_false, guardG, opG, isPtr, inB, sval, stake, eats, eaters, get, cval, cval1, croom, St.taken, put_slot, put_room, put_box, dem_none, dem_slot, dem_box, setBox_slot, setBox_room, setBox_box, entry_slot, entry_room, entry_box, entry_ctr, endQ, endR, endV, rvars, rvar, room1, ↓reduceIte, Nat.reduceEqDiff, Nat.reduceLT, reduceCtorEq, decide_true, decide_false, List.filterMap_cons, List.filterMap_nil, Option.bind_some, Option.map_some, List.getElem?_cons_zero, List.getElem?_cons_succ, List.getD_cons_zero, List.getD_cons_succ, List.contains_cons, List.contains_nil, List.map_cons, List.map_nil, beq_self_eq_true, Bool.or_false, Bool.and_true, Nat.reduceBEq, Bool.false_eq_true, dbin, dIntBin, okR, callG, row11, frz11, frzOf_def, frz_nil, beq_true, Bool.not_false, pureB, leaf, leafN, List.all_cons, List.all_nil, List.nil_append, List.append_nil, List.take_nil, List.range_zero, List.length_nil, List.length_cons, List.getElem?_nil, dcells, Nat.zero_add, Nat.reduceAdd, stepBox, Bool.and_false, Bool.false_and, and_self, Nat.add_zero, ge_iff_le, dStrBin, dp3, dp9, ty26, fp26_0, fa26_1, fp26_1, fp26_3, fp26_6, ia22, len22]
    | (refine drW_intro (by kernel_rfl) ?_)
    | (refine gw_intro (fun h => ?_) (fun h => ?_) <;> (try simp only [beq_true, beq_false, Bool.not_eq_eq_eq_not, Bool.not_true, Bool.not_false, Bool.not_not, decide_eq_true_eq, decide_eq_false_iff_not, ge_iff_le, gt_iff_lt] at h)))
          | true =>
            cases e2 with
            | false =>
              refine callK (m := 93) (res := [4]) (rs := [.tmp 4]) rfl Tryd.func42 rfl rfl rfl rfl rfl ?_
              repeat' (first
    | simp only [*, go_seq, go_cond, go_block, go_skip, go_exit, go_retc, go_xcode, go_xblk, go_region, go_ops_nil, go_ops, okG_some, okB_some, gwD_bool, cwD_bool, gw_true, gw_false, guardG, opG, isPtr, inB, sval, stake, eats, eaters, get, cval, cval1, croom, St.taken, put_slot, put_room, put_box, dem_none, dem_slot, dem_box, setBox_slot, setBox_room, setBox_box, entry_slot, entry_room, entry_box, entry_ctr, endQ, endR, endV, rvars, rvar, room1, ↓reduceIte, Nat.reduceEqDiff, Nat.reduceLT, reduceCtorEq, decide_true, decide_false, List.filterMap_cons, List.filterMap_nil, Option.bind_some, Option.map_some, List.getElem?_cons_zero, List.getElem?_cons_succ, List.getD_cons_zero, List.getD_cons_succ, List.contains_cons, List.contains_nil, List.map_cons, List.map_nil, beq_self_eq_true, Bool.or_false, Bool.and_true, Nat.reduceBEq, Bool.false_eq_true, dbin, dIntBin, okR, callG, row11, frz11, frzOf_def, frz_nil, beq_true, Bool.not_false, pureB, leaf, leafN, List.all_cons, List.all_nil, List.nil_append, List.append_nil, List.take_nil, List.range_zero, List.length_nil, List.length_cons, List.getElem?_nil, dcells, Nat.zero_add, Nat.reduceAdd, stepBox, Bool.and_false, Bool.false_and, and_self, Nat.add_zero, ge_iff_le, dStrBin, dp3, dp9, ty26, fp26_0, fa26_1, fp26_1, fp26_2, fp26_3, fp26_6, ia22, len22]
    | (refine drW_intro (by kernel_rfl) ?_)
    | (refine gw_intro (fun h => ?_) (fun h => ?_) <;> (try simp only [beq_true, beq_false, Bool.not_eq_eq_eq_not, Bool.not_true, Bool.not_false, Bool.not_not, decide_eq_true_eq, decide_eq_false_iff_not, ge_iff_le, gt_iff_lt] at h)))
            | true =>
              cases e4 with
              | false =>
                refine callK (m := 93) (res := [4]) (rs := [.tmp 4]) rfl Tryd.func42 rfl rfl rfl rfl rfl ?_
                repeat' (first
    | simp only [*, go_seq, go_cond, go_block, go_skip, go_exit, go_retc, go_xcode, go_xblk, go_region, go_ops_nil, go_ops, okG_some, okB_some, gwD_bool, cwD_bool, gw_true, gw_false, guardG, opG, isPtr, inB, sval, stake, eats, eaters, get, cval, cval1, croom, St.taken, put_slot, put_room, put_box, dem_none, dem_slot, dem_box, setBox_slot, setBox_room, setBox_box, entry_slot, entry_room, entry_box, entry_ctr, endQ, endR, endV, rvars, rvar, room1, ↓reduceIte, Nat.reduceEqDiff, Nat.reduceLT, reduceCtorEq, decide_true, decide_false, List.filterMap_cons, List.filterMap_nil, Option.bind_some, Option.map_some, List.getElem?_cons_zero, List.getElem?_cons_succ, List.getD_cons_zero, List.getD_cons_succ, List.contains_cons, List.contains_nil, List.map_cons, List.map_nil, beq_self_eq_true, Bool.or_false, Bool.and_true, Nat.reduceBEq, Bool.false_eq_true, dbin, dIntBin, okR, callG, row11, frz11, frzOf_def, frz_nil, beq_true, Bool.not_false, pureB, leaf, leafN, List.all_cons, List.all_nil, List.nil_append, List.append_nil, List.take_nil, List.range_zero, List.length_nil, List.length_cons, List.getElem?_nil, dcells, Nat.zero_add, Nat.reduceAdd, stepBox, Bool.and_false, Bool.false_and, and_self, Nat.add_zero, ge_iff_le, dStrBin, dp3, dp9, ty26, fp26_0, fa26_1, fp26_1, fp26_2, fp26_3, fp26_4, fp26_6, ia22, len22, dp23]
    | (refine drW_intro (by kernel_rfl) ?_)
    | (refine gw_intro (fun h => ?_) (fun h => ?_) <;> (try simp only [beq_true, beq_false, Bool.not_eq_eq_eq_not, Bool.not_true, Bool.not_false, Bool.not_not, decide_eq_true_eq, decide_eq_false_iff_not, ge_iff_le, gt_iff_lt] at h)))
              | true =>
                refine callK (m := 93) (res := [4]) (rs := [.tmp 4]) rfl Tryd.func42 rfl rfl rfl rfl rfl ?_
                repeat' (first
    | simp only [*, go_seq, go_cond, go_block, go_skip, go_exit, go_retc, go_xcode, go_xblk, go_region, go_ops_nil, go_ops, okG_some, okB_some, gwD_bool, cwD_bool, gw_true, gw_false, guardG, opG, isPtr, inB, sval, stake, eats, eaters, get, cval, cval1, croom, St.taken, put_slot, put_room, put_box, dem_none, dem_slot, dem_box, setBox_slot, setBox_room, setBox_box, entry_slot, entry_room, entry_box, entry_ctr, endQ, endR, endV, rvars, rvar, room1, ↓reduceIte, Nat.reduceEqDiff, Nat.reduceLT, reduceCtorEq, decide_true, decide_false, List.filterMap_cons, List.filterMap_nil, Option.bind_some, Option.map_some, List.getElem?_cons_zero, List.getElem?_cons_succ, List.getD_cons_zero, List.getD_cons_succ, List.contains_cons, List.contains_nil, List.map_cons, List.map_nil, beq_self_eq_true, Bool.or_false, Bool.and_true, Bool.true_and, Nat.reduceBEq, Bool.false_eq_true, dbin, dIntBin, okR, callG, row11, frz11, frzOf_def, frz_nil, Bool.not_false, pureB, leaf, leafN, List.all_cons, List.all_nil, List.nil_append, List.append_nil, List.take_nil, List.range_zero, List.length_nil, List.length_cons, List.getElem?_nil, dcells, Nat.zero_add, Nat.reduceAdd, stepBox, and_self, Nat.add_zero, ge_iff_le, dStrBin, dp3, dp9, ty26, fp26_0, fa26_1, fp26_1, fp26_2, fp26_3, fp26_4, fp26_5, fp26_6, ia22, len22, dp23, dp24]
    | (refine drW_intro (by kernel_rfl) ?_)
    | (refine gw_intro (fun h => ?_) (fun h => ?_) <;> (try simp only [beq_true, beq_false, Bool.not_eq_eq_eq_not, Bool.not_true, Bool.not_false, Bool.not_not, decide_eq_true_eq, decide_eq_false_iff_not, ge_iff_le, gt_iff_lt] at h)))
    · by_cases k2 : k = 2
      · subst k2
        cases c1 : (sp == []) with
        | false =>
          refine callK (m := 93) (res := [4]) (rs := [.tmp 4]) rfl Tryd.func42 rfl rfl rfl rfl rfl ?_
          repeat' (first
    | simp only [*, go_seq, go_cond, go_block, go_blk, go_skip, go_exit, go_retc, go_xcode, go_xblk, go_region, go_ops_nil, go_ops, okG_some, okB_some, gwD_bool, cwD_bool, gw_true, gw_false, guardG, opG, isPtr, inB, sval, stake, eats, eaters, get, cval, cval1, croom, St.taken, put_slot, put_room, put_box, dem_none, dem_slot, dem_box, setBox_slot, setBox_room, setBox_box, entry_slot, entry_room, entry_box, entry_ctr, endQ, endR, endV, rvars, rvar, room1, ↓reduceIte, Nat.reduceEqDiff, Nat.reduceLT, reduceCtorEq, decide_true, decide_false, List.filterMap_cons, List.filterMap_nil, Option.bind_some, Option.map_some, List.getElem?_cons_zero, List.getElem?_cons_succ, List.getD_cons_zero, List.getD_cons_succ, List.contains_cons, List.contains_nil, List.map_cons, List.map_nil, beq_self_eq_true, Bool.or_false, Bool.and_true, Nat.reduceBEq, Bool.false_eq_true, dbin, dIntBin, okR, callG, row11, frz11, frzOf_def, frz_nil, beq_true, pureB, leaf, leafN, List.all_cons, List.all_nil, List.nil_append, List.take_nil, List.range_zero, List.length_nil, List.length_cons, List.getElem?_nil, dcells, Nat.zero_add, Nat.reduceAdd, stepBox, Bool.false_and, and_self, Nat.add_zero, ge_iff_le, dStrBin, Int.reduceBEq, dp3, dp9, ty26, fp26_0, fa26_1, fp26_1, fp26_2, ia22, len22]
    | (refine drW_intro (by kernel_rfl) ?_)
    | (refine gw_intro (fun h => ?_) (fun h => ?_) <;> (try simp only [beq_true, beq_false, Bool.not_eq_eq_eq_not, Bool.not_true, Bool.not_false, Bool.not_not, decide_eq_true_eq, decide_eq_false_iff_not, ge_iff_le, gt_iff_lt] at h)))
        | true =>
          cases c2 : (nm == []) with
          | false =>
            refine callK (m := 93) (res := [4]) (rs := [.tmp 4]) rfl Tryd.func42 rfl rfl rfl rfl rfl ?_
            repeat' (first
    | simp only [*, go_seq, go_cond, go_block, go_blk, go_skip, go_exit, go_retc, go_xcode, go_xblk, go_region, go_ops_nil, go_ops, okG_some, okB_some, gwD_bool, cwD_bool, gw_true, gw_false, guardG, opG, isPtr, inB, sval, stake, eats, eaters, get, cval, cval1, croom, St.taken, put_slot, put_room, put_box, dem_none, dem_slot, dem_box, setBox_slot, setBox_room, setBox_box, entry_slot, entry_room, entry_box, entry_ctr, endQ, endR, endV, rvars, rvar, room1, ↓reduceIte, Nat.reduceEqDiff, Nat.reduceLT, reduceCtorEq, decide_true, decide_false, List.filterMap_cons, List.filterMap_nil, Option.bind_some, Option.map_some, List.getElem?_cons_zero, List.getElem?_cons_succ, List.getD_cons_zero, List.getD_cons_succ, List.contains_cons, List.contains_nil, List.map_cons, List.map_nil, beq_self_eq_true, Bool.or_false, Bool.and_true, Nat.reduceBEq, Bool.false_eq_true, dbin, dIntBin, okR, callG, row11, frz11, frzOf_def, frz_nil, beq_true, pureB, leaf, leafN, List.all_cons, List.all_nil, List.nil_append, List.take_nil, List.range_zero, List.length_nil, List.length_cons, List.getElem?_nil, dcells, Nat.zero_add, Nat.reduceAdd, stepBox, Bool.and_false, Bool.false_and, and_self, Nat.add_zero, ge_iff_le, dStrBin, Int.reduceBEq, dp3, dp9, ty26, fp26_0, fa26_1, fp26_1, fp26_2, fp26_3, ia22, len22]
    | (refine drW_intro (by kernel_rfl) ?_)
    | (refine gw_intro (fun h => ?_) (fun h => ?_) <;> (try simp only [beq_true, beq_false, Bool.not_eq_eq_eq_not, Bool.not_true, Bool.not_false, Bool.not_not, decide_eq_true_eq, decide_eq_false_iff_not, ge_iff_le, gt_iff_lt] at h)))
          | true =>
            cases c3 : ((la.length : Int) == 0) with
            | false =>
              refine callK (m := 93) (res := [4]) (rs := [.tmp 4]) rfl Tryd.func42 rfl rfl rfl rfl rfl ?_
              repeat' (first
    | simp only [*, go_seq, go_cond, go_block, go_blk, go_skip, go_exit, go_retc, go_xcode, go_xblk, go_region, go_ops_nil, go_ops, okG_some, okB_some, gwD_bool, cwD_bool, gw_true, gw_false, guardG, opG, isPtr, inB, sval, stake, eats, eaters, get, cval, cval1, croom, St.taken, put_slot, put_room, put_box, dem_none, dem_slot, dem_box, setBox_slot, setBox_room, setBox_box, entry_slot, entry_room, entry_box, entry_ctr, endQ, endR, endV, rvars, rvar, room1, ↓reduceIte, Nat.reduceEqDiff, Nat.reduceLT, reduceCtorEq, decide_true, decide_false, List.filterMap_cons, List.filterMap_nil, Option.bind_some, Option.map_some, List.getElem?_cons_zero, List.getElem?_cons_succ, List.getD_cons_zero, List.getD_cons_succ, List.contains_cons, List.contains_nil, List.map_cons, List.map_nil, beq_self_eq_true, Bool.or_false, Bool.and_true, Nat.reduceBEq, Bool.false_eq_true, dbin, dIntBin, okR, callG, row11, frz11, frzOf_def, frz_nil, beq_true, pureB, leaf, leafN, List.all_cons, List.all_nil, List.nil_append, List.take_nil, List.range_zero, List.length_nil, List.length_cons, List.getElem?_nil, dcells, Nat.zero_add, Nat.reduceAdd, stepBox, Bool.and_false, Bool.false_and, and_self, Nat.add_zero, ge_iff_le, dStrBin, Int.reduceBEq, dp3, dp9, ty26, fp26_0, fa26_1, fp26_1, fp26_2, fp26_3, fp26_4, ia22, len22, dp23, len23]
    | (refine drW_intro (by kernel_rfl) ?_)
    | (refine gw_intro (fun h => ?_) (fun h => ?_) <;> (try simp only [beq_true, beq_false, Bool.not_eq_eq_eq_not, Bool.not_true, Bool.not_false, Bool.not_not, decide_eq_true_eq, decide_eq_false_iff_not, ge_iff_le, gt_iff_lt] at h)))
            | true =>
              cases c4 : ((ls.length : Int) == 0) with
              | false =>
                refine callK (m := 93) (res := [4]) (rs := [.tmp 4]) rfl Tryd.func42 rfl rfl rfl rfl rfl ?_
                repeat' (first
    | simp only [*, go_seq, go_cond, go_block, go_blk, go_skip, go_exit, go_retc, go_xcode, go_xblk, go_region, go_ops_nil, go_ops, okG_some, okB_some, gwD_bool, cwD_bool, gw_true, gw_false, guardG, opG, isPtr, inB, sval, stake, eats, eaters, get, cval, cval1, croom, St.taken, put_slot, put_room, put_box, dem_none, dem_slot, dem_box, setBox_slot, setBox_room, setBox_box, entry_slot, entry_room, entry_box, entry_ctr, endQ, endR, endV, rvars, rvar, room1, ↓reduceIte, Nat.reduceEqDiff, Nat.reduceLT, reduceCtorEq, decide_true, decide_false, List.filterMap_cons, List.filterMap_nil, Option.bind_some, Option.map_some, List.getElem?_cons_zero, List.getElem?_cons_succ, List.getD_cons_zero, List.getD_cons_succ, List.contains_cons, List.contains_nil, List.map_cons, List.map_nil, beq_self_eq_true, Bool.or_false, Bool.and_true, Nat.reduceBEq, Bool.false_eq_true, dbin, dIntBin, okR, callG, row11, frz11, frzOf_def, frz_nil, beq_true, pureB, leaf, leafN, List.all_cons, List.all_nil, List.nil_append, List.take_nil, List.range_zero, List.length_nil, List.length_cons, List.getElem?_nil, dcells, Nat.zero_add, Nat.reduceAdd, stepBox, Bool.and_false, Bool.false_and, and_self, Nat.add_zero, ge_iff_le, dStrBin, Int.reduceBEq, dp3, dp9, ty26, fp26_0, fa26_1, fp26_1, fp26_2, fp26_3, fp26_4, fp26_5, ia22, len22, dp23, len23, dp24, len24]
    | (refine drW_intro (by kernel_rfl) ?_)
    | (refine gw_intro (fun h => ?_) (fun h => ?_) <;> (try simp only [beq_true, beq_false, Bool.not_eq_eq_eq_not, Bool.not_true, Bool.not_false, Bool.not_not, decide_eq_true_eq, decide_eq_false_iff_not, ge_iff_le, gt_iff_lt] at h)))
              | true =>
                refine callK (m := 93) (res := [4]) (rs := [.tmp 4]) rfl Tryd.func42 rfl rfl rfl rfl rfl ?_
                repeat' (first
    | simp only [*, go_seq, go_cond, go_block, go_blk, go_skip, go_exit, go_retc, go_xcode, go_xblk, go_region, go_ops_nil, go_ops, okG_some, okB_some, gwD_bool, cwD_bool, gw_true, gw_false, guardG, opG, isPtr, inB, sval, stake, eats, eaters, get, cval, cval1, croom, St.taken, put_slot, put_room, put_box, dem_none, dem_slot, dem_box, setBox_slot, setBox_room, setBox_box, entry_slot, entry_room, entry_box, entry_ctr, endQ, endR, endV, rvars, rvar, room1, ↓reduceIte, Nat.reduceEqDiff, Nat.reduceLT, reduceCtorEq, decide_true, decide_false, List.filterMap_cons, List.filterMap_nil, Option.bind_some, Option.map_some, List.getElem?_cons_zero, List.getElem?_cons_succ, List.getD_cons_zero, List.getD_cons_succ, List.contains_cons, List.contains_nil, List.map_cons, List.map_nil, beq_self_eq_true, Bool.or_false, Bool.and_true, Bool.true_and, Nat.reduceBEq, Bool.false_eq_true, dbin, dIntBin, okR, callG, row11, frz11, frzOf_def, frz_nil, pureB, leaf, leafN, List.all_cons, List.all_nil, List.nil_append, List.append_nil, List.take_nil, List.range_zero, List.length_nil, List.length_cons, List.getElem?_nil, dcells, Nat.zero_add, Nat.reduceAdd, stepBox, and_self, Nat.add_zero, ge_iff_le, dStrBin, Int.reduceBEq, dp3, dp9, ty26, fp26_0, fa26_1, fp26_1, fp26_2, fp26_3, fp26_4, fp26_5, fp26_6, ia22, len22, dp23, len23, dp24, len24]
    | (refine drW_intro (by kernel_rfl) ?_)
    | (refine gw_intro (fun h => ?_) (fun h => ?_) <;> (try simp only [beq_true, beq_false, Bool.not_eq_eq_eq_not, Bool.not_true, Bool.not_false, Bool.not_not, decide_eq_true_eq, decide_eq_false_iff_not, ge_iff_le, gt_iff_lt] at h)))
      · by_cases k3 : k = 3
        · subst k3
          cases c1 : (sp == []) with
          | false =>
            refine callK (m := 93) (res := [4]) (rs := [.tmp 4]) rfl Tryd.func42 rfl rfl rfl rfl rfl ?_
            repeat' (first
    | simp only [*, go_seq, go_cond, go_block, go_skip, go_exit, go_retc, go_xcode, go_xblk, go_region, go_ops_nil, go_ops, okG_some, okB_some, gwD_bool, cwD_bool, gw_true, gw_false, guardG, opG, isPtr, inB, sval, stake, eats, eaters, get, cval, cval1, croom, St.taken, put_slot, put_room, put_box, dem_none, dem_slot, dem_box, setBox_slot, setBox_room, setBox_box, entry_slot, entry_room, entry_box, entry_ctr, endQ, endR, endV, rvars, rvar, room1, ↓reduceIte, Nat.reduceEqDiff, Nat.reduceLT, reduceCtorEq, decide_true, decide_false, List.filterMap_cons, List.filterMap_nil, Option.bind_some, Option.map_some, List.getElem?_cons_zero, List.getElem?_cons_succ, List.getD_cons_zero, List.getD_cons_succ, List.contains_cons, List.contains_nil, List.map_cons, List.map_nil, beq_self_eq_true, Bool.or_false, Bool.and_true, Nat.reduceBEq, Bool.false_eq_true, dbin, dIntBin, okR, callG, row11, frz11, frzOf_def, frz_nil, beq_true, pureB, leaf, leafN, List.all_cons, List.all_nil, List.nil_append, List.take_nil, List.range_zero, List.length_nil, List.length_cons, List.getElem?_nil, dcells, Nat.zero_add, Nat.reduceAdd, stepBox, Bool.false_and, and_self, Nat.add_zero, ge_iff_le, dStrBin, Int.reduceBEq, dp3, dp9, ty26, fp26_0, fa26_1, fp26_1, fp26_2, ia22, len22]
    | (refine drW_intro (by kernel_rfl) ?_)
    | (refine gw_intro (fun h => ?_) (fun h => ?_) <;> (try simp only [beq_true, beq_false, Bool.not_eq_eq_eq_not, Bool.not_true, Bool.not_false, Bool.not_not, decide_eq_true_eq, decide_eq_false_iff_not, ge_iff_le, gt_iff_lt] at h)))
          | true =>
            cases c2 : (nm == []) with
            | false =>
              refine callK (m := 93) (res := [4]) (rs := [.tmp 4]) rfl Tryd.func42 rfl rfl rfl rfl rfl ?_
              repeat' (first
    | simp only [*, go_seq, go_cond, go_block, go_skip, go_exit, go_retc, go_xcode, go_xblk, go_region, go_ops_nil, go_ops, okG_some, okB_some, gwD_bool, cwD_bool, gw_true, gw_false, guardG, opG, isPtr, inB, sval, stake, eats, eaters, get, cval, cval1, croom, St.taken, put_slot, put_room, put_box, dem_none, dem_slot, dem_box, setBox_slot, setBox_room, setBox_box, entry_slot, entry_room, entry_box, entry_ctr, endQ, endR, endV, rvars, rvar, room1, ↓reduceIte, Nat.reduceEqDiff, Nat.reduceLT, reduceCtorEq, decide_true, decide_false, List.filterMap_cons, List.filterMap_nil, Option.bind_some, Option.map_some, List.getElem?_cons_zero, List.getElem?_cons_succ, List.getD_cons_zero, List.getD_cons_succ, List.contains_cons, List.contains_nil, List.map_cons, List.map_nil, beq_self_eq_true, Bool.or_false, Bool.and_true, Nat.reduceBEq, Bool.false_eq_true, dbin, dIntBin, okR, callG, row11, frz11, frzOf_def, frz_nil, beq_true, pureB, leaf, leafN, List.all_cons, List.all_nil, List.nil_append, List.take_nil, List.range_zero, List.length_nil, List.length_cons, List.getElem?_nil, dcells, Nat.zero_add, Nat.reduceAdd, stepBox, Bool.and_false, Bool.false_and, and_self, Nat.add_zero, ge_iff_le, dStrBin, Int.reduceBEq, dp3, dp9, ty26, fp26_0, fa26_1, fp26_1, fp26_2, fp26_3, ia22, len22]
    | (refine drW_intro (by kernel_rfl) ?_)
    | (refine gw_intro (fun h => ?_) (fun h => ?_) <;> (try simp only [beq_true, beq_false, Bool.not_eq_eq_eq_not, Bool.not_true, Bool.not_false, Bool.not_not, decide_eq_true_eq, decide_eq_false_iff_not, ge_iff_le, gt_iff_lt] at h)))
            | true =>
              cases c3 : ((la.length : Int) == 0) with
              | false =>
                refine callK (m := 93) (res := [4]) (rs := [.tmp 4]) rfl Tryd.func42 rfl rfl rfl rfl rfl ?_
                repeat' (first
    | simp only [*, go_seq, go_cond, go_block, go_skip, go_exit, go_retc, go_xcode, go_xblk, go_region, go_ops_nil, go_ops, okG_some, okB_some, gwD_bool, cwD_bool, gw_true, gw_false, guardG, opG, isPtr, inB, sval, stake, eats, eaters, get, cval, cval1, croom, St.taken, put_slot, put_room, put_box, dem_none, dem_slot, dem_box, setBox_slot, setBox_room, setBox_box, entry_slot, entry_room, entry_box, entry_ctr, endQ, endR, endV, rvars, rvar, room1, ↓reduceIte, Nat.reduceEqDiff, Nat.reduceLT, reduceCtorEq, decide_true, decide_false, List.filterMap_cons, List.filterMap_nil, Option.bind_some, Option.map_some, List.getElem?_cons_zero, List.getElem?_cons_succ, List.getD_cons_zero, List.getD_cons_succ, List.contains_cons, List.contains_nil, List.map_cons, List.map_nil, beq_self_eq_true, Bool.or_false, Bool.and_true, Nat.reduceBEq, Bool.false_eq_true, dbin, dIntBin, okR, callG, row11, frz11, frzOf_def, frz_nil, beq_true, pureB, leaf, leafN, List.all_cons, List.all_nil, List.nil_append, List.take_nil, List.range_zero, List.length_nil, List.length_cons, List.getElem?_nil, dcells, Nat.zero_add, Nat.reduceAdd, stepBox, Bool.and_false, Bool.false_and, and_self, Nat.add_zero, ge_iff_le, dStrBin, Int.reduceBEq, dp3, dp9, ty26, fp26_0, fa26_1, fp26_1, fp26_2, fp26_3, fp26_4, ia22, len22, dp23, len23]
    | (refine drW_intro (by kernel_rfl) ?_)
    | (refine gw_intro (fun h => ?_) (fun h => ?_) <;> (try simp only [beq_true, beq_false, Bool.not_eq_eq_eq_not, Bool.not_true, Bool.not_false, Bool.not_not, decide_eq_true_eq, decide_eq_false_iff_not, ge_iff_le, gt_iff_lt] at h)))
              | true =>
                cases c4 : ((ls.length : Int) == 0) with
                | false =>
                  refine callK (m := 93) (res := [4]) (rs := [.tmp 4]) rfl Tryd.func42 rfl rfl rfl rfl rfl ?_
                  repeat' (first
    | simp only [*, go_seq, go_cond, go_block, go_skip, go_exit, go_retc, go_xcode, go_xblk, go_region, go_ops_nil, go_ops, okG_some, okB_some, gwD_bool, cwD_bool, gw_true, gw_false, guardG, opG, isPtr, inB, sval, stake, eats, eaters, get, cval, cval1, croom, St.taken, put_slot, put_room, put_box, dem_none, dem_slot, dem_box, setBox_slot, setBox_room, setBox_box, entry_slot, entry_room, entry_box, entry_ctr, endQ, endR, endV, rvars, rvar, room1, ↓reduceIte, Nat.reduceEqDiff, Nat.reduceLT, reduceCtorEq, decide_true, decide_false, List.filterMap_cons, List.filterMap_nil, Option.bind_some, Option.map_some, List.getElem?_cons_zero, List.getElem?_cons_succ, List.getD_cons_zero, List.getD_cons_succ, List.contains_cons, List.contains_nil, List.map_cons, List.map_nil, beq_self_eq_true, Bool.or_false, Bool.and_true, Nat.reduceBEq, Bool.false_eq_true, dbin, dIntBin, okR, callG, row11, frz11, frzOf_def, frz_nil, beq_true, pureB, leaf, leafN, List.all_cons, List.all_nil, List.nil_append, List.take_nil, List.range_zero, List.length_nil, List.length_cons, List.getElem?_nil, dcells, Nat.zero_add, Nat.reduceAdd, stepBox, Bool.and_false, Bool.false_and, and_self, Nat.add_zero, ge_iff_le, dStrBin, Int.reduceBEq, dp3, dp9, ty26, fp26_0, fa26_1, fp26_1, fp26_2, fp26_3, fp26_4, fp26_5, ia22, len22, dp23, len23, dp24, len24]
    | (refine drW_intro (by kernel_rfl) ?_)
    | (refine gw_intro (fun h => ?_) (fun h => ?_) <;> (try simp only [beq_true, beq_false, Bool.not_eq_eq_eq_not, Bool.not_true, Bool.not_false, Bool.not_not, decide_eq_true_eq, decide_eq_false_iff_not, ge_iff_le, gt_iff_lt] at h)))
                | true =>
                  refine callK (m := 93) (res := [4]) (rs := [.tmp 4]) rfl Tryd.func42 rfl rfl rfl rfl rfl ?_
                  repeat' (first
    | simp only [*, go_seq, go_cond, go_block, go_skip, go_exit, go_retc, go_xcode, go_xblk, go_region, go_ops_nil, go_ops, okG_some, okB_some, gwD_bool, cwD_bool, gw_true, gw_false, guardG, opG, isPtr, inB, sval, stake, eats, eaters, get, cval, cval1, croom, St.taken, put_slot, put_room, put_box, dem_none, dem_slot, dem_box, setBox_slot, setBox_room, setBox_box, entry_slot, entry_room, entry_box, entry_ctr, endQ, endR, endV, rvars, rvar, room1, ↓reduceIte, Nat.reduceEqDiff, Nat.reduceLT, reduceCtorEq, decide_true, decide_false, List.filterMap_cons, List.filterMap_nil, Option.bind_some, Option.map_some, List.getElem?_cons_zero, List.getElem?_cons_succ, List.getD_cons_zero, List.getD_cons_succ, List.contains_cons, List.contains_nil, List.map_cons, List.map_nil, beq_self_eq_true, Bool.or_false, Bool.and_true, Bool.true_and, Nat.reduceBEq, Bool.false_eq_true, dbin, dIntBin, okR, callG, row11, frz11, frzOf_def, frz_nil, pureB, leaf, leafN, List.all_cons, List.all_nil, List.nil_append, List.append_nil, List.take_nil, List.range_zero, List.length_nil, List.length_cons, List.getElem?_nil, dcells, Nat.zero_add, Nat.reduceAdd, stepBox, and_self, Nat.add_zero, ge_iff_le, dStrBin, Int.reduceBEq, dp3, dp9, ty26, fp26_0, fa26_1, fp26_1, fp26_2, fp26_3, fp26_4, fp26_5, fp26_6, ia22, len22, dp23, len23, dp24, len24]
    | (refine drW_intro (by kernel_rfl) ?_)
    | (refine gw_intro (fun h => ?_) (fun h => ?_) <;> (try simp only [beq_true, beq_false, Bool.not_eq_eq_eq_not, Bool.not_true, Bool.not_false, Bool.not_not, decide_eq_true_eq, decide_eq_false_iff_not, ge_iff_le, gt_iff_lt] at h)))
        · have b1 : (k == 1) = false := by simpa using k1
          have b2 : (k == 2) = false := by simpa using k2
          have b3 : (k == 3) = false := by simpa using k3
          refine callK (m := 93) (res := [4]) (rs := [.tmp 4]) rfl Tryd.func42 rfl rfl rfl rfl rfl ?_
          repeat' (first
    | simp only [*, go_seq, go_cond, go_block, go_skip, go_exit, go_retc, go_xcode, go_xblk, go_region, go_ops_nil, go_ops, okG_some, okB_some, gwD_bool, cwD_bool, gw_true, gw_false, guardG, opG, isPtr, inB, sval, stake, eats, eaters, get, cval, cval1, croom, St.taken, put_slot, put_room, put_box, dem_none, dem_slot, dem_box, setBox_slot, setBox_room, setBox_box, entry_slot, entry_room, entry_box, entry_ctr, endQ, endR, endV, rvars, rvar, room1, ↓reduceIte, Nat.reduceEqDiff, Nat.reduceLT, reduceCtorEq, decide_true, decide_false, List.filterMap_cons, List.filterMap_nil, Option.bind_some, Option.map_some, List.getElem?_cons_zero, List.getElem?_cons_succ, List.getD_cons_zero, List.getD_cons_succ, List.contains_cons, List.contains_nil, List.map_cons, List.map_nil, beq_self_eq_true, Bool.or_false, Bool.and_true, Nat.reduceBEq, Bool.false_eq_true, dbin, dIntBin, okR, callG, row11, frz11, frzOf_def, frz_nil, pureB, leaf, leafN, List.all_cons, List.all_nil, List.take_nil, List.range_zero, List.length_nil, List.length_cons, List.getElem?_nil, dcells, Nat.zero_add, Nat.reduceAdd, stepBox, and_self, Nat.add_zero, ge_iff_le, dStrBin, dp3, ty26, fp26_0, fa26_1, fp26_1, ia22, len22, frz11b]
    | (refine drW_intro (by kernel_rfl) ?_)
    | (refine gw_intro (fun h => ?_) (fun h => ?_) <;> (try simp only [beq_true, beq_false, Bool.not_eq_eq_eq_not, Bool.not_true, Bool.not_false, Bool.not_not, decide_eq_true_eq, decide_eq_false_iff_not, ge_iff_le, gt_iff_lt] at h)))
  · have h5 : p < 0 := by omega
    clear h3
    generalize ahead.map Nd.d = AH at *
    have h2' : ¬ (AH.length : Int) ≤ p := by omega
    clear lN h2
    by_cases k1 : k = 1
    · subst k1
      cases c1 : (tx == []) with
      | false =>
        refine callK (m := 93) (res := [4]) (rs := [.tmp 4]) rfl Tryd.func42 rfl rfl rfl rfl rfl ?_
        repeat' (first
    | simp only [*, go_seq, go_cond, go_block, go_skip, go_exit, go_retc, go_xcode, go_xblk, go_region, go_ops_nil, go_ops, okG_some, okB_some, gwD_bool, cwD_bool, gw_true, gw_false, guardG, opG, isPtr, inB, sval, stake, eats, eaters, get, cval, cval1, croom, St.taken, put_slot, put_room, put_box, dem_none, dem_slot, dem_box, setBox_slot, setBox_room, setBox_box, entry_slot, entry_room, entry_box, entry_ctr, endQ, endR, endV, rvars, rvar, room1, ↓reduceIte, Nat.reduceEqDiff, Nat.reduceLT, reduceCtorEq, decide_true, decide_false, List.filterMap_cons, List.filterMap_nil, Option.bind_some, Option.map_some, List.getElem?_cons_zero, List.getElem?_cons_succ, List.getD_cons_zero, List.getD_cons_succ, List.contains_cons, List.contains_nil, List.map_cons, List.map_nil, beq_self_eq_true, Bool.or_false, Bool.and_true, Nat.reduceBEq, Bool.false_eq_true, dbin, dIntBin, okR, callG, row11, frz11, frzOf_def, frz_nil, beq_true, pureB, leaf, leafN, List.all_cons, List.all_nil, List.nil_append, List.take_nil, List.range_zero, List.length_nil, List.length_cons, List.getElem?_nil, dcells, Nat.zero_add, Nat.reduceAdd, stepBox, Bool.false_and, and_self, Nat.add_zero, ge_iff_le, dStrBin, dp3, dp9, ty26, fp26_0, fp26_1, fp26_6, len22]
    | (refine drW_intro (by kernel_rfl) ?_)
    | (refine gw_intro (fun h => ?_) (fun h => ?_) <;> (try simp only [beq_true, beq_false, Bool.not_eq_eq_eq_not, Bool.not_true, Bool.not_false, Bool.not_not, decide_eq_true_eq, decide_eq_false_iff_not, ge_iff_le, gt_iff_lt] at h)))
      | true =>
        cases c2 : (nm == []) with
        | true =>
          refine callK (m := 93) (res := [4]) (rs := [.tmp 4]) rfl Tryd.func42 rfl rfl rfl rfl rfl ?_
          repeat' (first
    | simp only [*, go_seq, go_cond, go_block, go_skip, go_exit, go_retc, go_xcode, go_xblk, go_region, go_ops_nil, go_ops, okG_some, okB_some, gwD_bool, cwD_bool, gw_true, gw_false, guardG, opG, isPtr, inB, sval, stake, eats, eaters, get, cval, cval1, croom, St.taken, put_slot, put_room, put_box, dem_none, dem_slot, dem_box, setBox_slot, setBox_room, setBox_box, entry_slot, entry_room, entry_box, entry_ctr, endQ, endR, endV, rvars, rvar, room1, ↓reduceIte, Nat.reduceEqDiff, Nat.reduceLT, reduceCtorEq, decide_true, decide_false, List.filterMap_cons, List.filterMap_nil, Option.bind_some, Option.map_some, List.getElem?_cons_zero, List.getElem?_cons_succ, List.getD_cons_zero, List.getD_cons_succ, List.contains_cons, List.contains_nil, List.map_cons, List.map_nil, beq_self_eq_true, Bool.or_false, Bool.and_true, Nat.reduceBEq, Bool.false_eq_true, dbin, dIntBin, okR, callG, row11, frz11, frzOf_def, frz_nil, beq_true, Bool.not_true, pureB, leaf, leafN, List.all_cons, List.all_nil, List.nil_append, List.take_nil, List.range_zero, List.length_nil, List.length_cons, List.getElem?_nil, dcells, Nat.zero_add, Nat.reduceAdd, stepBox, Bool.and_false, Bool.false_and, and_self, Nat.add_zero, ge_iff_le, dStrBin, dp3, dp9, ty26, fp26_0, fp26_1, fp26_3, fp26_6, len22]
    | (refine drW_intro (by kernel_rfl) ?_)
    | (refine gw_intro (fun h => ?_) (fun h => ?_) <;> (try simp only [beq_true, beq_false, Bool.not_eq_eq_eq_not, Bool.not_true, Bool.not_false, Bool.not_not, decide_eq_true_eq, decide_eq_false_iff_not, ge_iff_le, gt_iff_lt] at h)))
        | false =>
          cases e1 with
          | false =>
            refine callK (m := 93) (res := [4]) (rs := [.tmp 4]) rfl Tryd.func42 rfl rfl rfl rfl rfl ?_
            repeat' (first
    | simp only [*, go_seq, go_cond, go_block, go_skip, go_exit, go_retc, go_xcode, go_xblk, go_region, go_ops_nil, go_ops, okG_some, okB_some, gwD_bool, cwD_bool, gw_true, gw_false, guardG, opG, isPtr, inB, sval, stake, eats, eaters, get, cval, cval1, croom, St.taken, put_slot, put_room, put_box, dem_none, dem_slot, dem_box, setBox_slot, setBox_room, setBox_box, entry_slot, entry_room, entry_box, entry_ctr, endQ, endR, endV, rvars, rvar, room1, ↓reduceIte, Nat.reduceEqDiff, Nat.reduceLT, reduceCtorEq, decide_true, decide_false, List.filterMap_cons, List.filterMap_nil, Option.bind_some, Option.map_some, List.getElem?_cons_zero, List.getElem?_cons_succ, List.getD_cons_zero, List.getD_cons_succ, List.contains_cons, List.contains_nil, List.map_cons, List.map_nil, beq_self_eq_true, Bool.or_false, Bool.and_true, Nat.reduceBEq, Bool.false_eq_true, dbin, dIntBin, okR, callG, row11, frz11, frzOf_def, frz_nil, beq_true, Bool.not_false, pureB, leaf, leafN, List.all_cons, List.all_nil, List.nil_append, List.append_nil, List.take_nil, List.range_zero, List.length_nil, List.length_cons, List.getElem?_nil, dcells, Nat.zero_add, Nat.reduceAdd, stepBox, Bool.and_false, Bool.false_and, and_self, Nat.add_zero, ge_iff_le, dStrBin, dp3, dp9, ty26, fp26_0, fp26_1, fp26_3, fp26_6, len22]
    | (refine drW_intro (by kernel_rfl) ?_)
    | (refine gw_intro (fun h => ?_) (fun h => ?_) <;> (try simp only [beq_true, beq_false, Bool.not_eq_eq_eq_not, Bool.not_true, Bool.not_false, Bool.not_not, decide_eq_true_eq, decide_eq_false_iff_not, ge_iff_le, gt_iff_lt] at h)))
          | true =>
            cases e2 with
            | false =>
              refine callK (m := 93) (res := [4]) (rs := [.tmp 4]) rfl Tryd.func42 rfl rfl rfl rfl rfl ?_
              repeat' (first
    | simp only [*, go_seq, go_cond, go_block, go_skip, go_exit, go_retc, go_xcode, go_xblk, go_region, go_ops_nil, go_ops, okG_some, okB_some, gwD_bool, cwD_bool, gw_true, gw_false, guardG, opG, isPtr, inB, sval, stake, eats, eaters, get, cval, cval1, croom, St.taken, put_slot, put_room, put_box, dem_none, dem_slot, dem_box, setBox_slot, setBox_room, setBox_box, entry_slot, entry_room, entry_box, entry_ctr, endQ, endR, endV, rvars, rvar, room1, ↓reduceIte, Nat.reduceEqDiff, Nat.reduceLT, reduceCtorEq, decide_true, decide_false, List.filterMap_cons, List.filterMap_nil, Option.bind_some, Option.map_some, List.getElem?_cons_zero, List.getElem?_cons_succ, List.getD_cons_zero, List.getD_cons_succ, List.contains_cons, List.contains_nil, List.map_cons, List.map_nil, beq_self_eq_true, Bool.or_false, Bool.and_true, Nat.reduceBEq, Bool.false_eq_true, dbin, dIntBin, okR, callG, row11, frz11, frzOf_def, frz_nil, beq_true, Bool.not_false, pureB, leaf, leafN, List.all_cons, List.all_nil, List.nil_append, List.append_nil, List.take_nil, List.range_zero, List.length_nil, List.length_cons, List.getElem?_nil, dcells, Nat.zero_add, Nat.reduceAdd, stepBox, Bool.and_false, Bool.false_and, and_self, Nat.add_zero, ge_iff_le, dStrBin, dp3, dp9, ty26, fp26_0, fp26_1, fp26_2, fp26_3, fp26_6, len22]
    | (refine drW_intro (by kernel_rfl) ?_)
    | (refine gw_intro (fun h => ?_) (fun h => ?_) <;> (try simp only [beq_true, beq_false, Bool.not_eq_eq_eq_not, Bool.not_true, Bool.not_false, Bool.not_not, decide_eq_true_eq, decide_eq_false_iff_not, ge_iff_le, gt_iff_lt] at h)))
            | true =>
              cases e4 with
              | false =>
                refine callK (m := 93) (res := [4]) (rs := [.tmp 4]) rfl Tryd.func42 rfl rfl rfl rfl rfl ?_
                repeat' (first
    | simp only [*, go_seq, go_cond, go_block, go_skip, go_exit, go_retc, go_xcode, go_xblk, go_region, go_ops_nil, go_ops, okG_some, okB_some, gwD_bool, cwD_bool, gw_true, gw_false, guardG, opG, isPtr, inB, sval, stake, eats, eaters, get, cval, cval1, croom, St.taken, put_slot, put_room, put_box, dem_none, dem_slot, dem_box, setBox_slot, setBox_room, setBox_box, entry_slot, entry_room, entry_box, entry_ctr, endQ, endR, endV, rvars, rvar, room1, ↓reduceIte, Nat.reduceEqDiff, Nat.reduceLT, reduceCtorEq, decide_true, decide_false, List.filterMap_cons, List.filterMap_nil, Option.bind_some, Option.map_some, List.getElem?_cons_zero, List.getElem?_cons_succ, List.getD_cons_zero, List.getD_cons_succ, List.contains_cons, List.contains_nil, List.map_cons, List.map_nil, beq_self_eq_true, Bool.or_false, Bool.and_true, Nat.reduceBEq, Bool.false_eq_true, dbin, dIntBin, okR, callG, row11, frz11, frzOf_def, frz_nil, beq_true, Bool.not_false, pureB, leaf, leafN, List.all_cons, List.all_nil, List.nil_append, List.append_nil, List.take_nil, List.range_zero, List.length_nil, List.length_cons, List.getElem?_nil, dcells, Nat.zero_add, Nat.reduceAdd, stepBox, Bool.and_false, Bool.false_and, and_self, Nat.add_zero, ge_iff_le, dStrBin, dp3, dp9, ty26, fp26_0, fp26_1, fp26_2, fp26_3, fp26_4, fp26_6, len22, dp23]
    | (refine drW_intro (by kernel_rfl) ?_)
    | (refine gw_intro (fun h => ?_) (fun h => ?_) <;> (try simp only [beq_true, beq_false, Bool.not_eq_eq_eq_not, Bool.not_true, Bool.not_false, Bool.not_not, decide_eq_true_eq, decide_eq_false_iff_not, ge_iff_le, gt_iff_lt] at h)))
              | true =>
                refine callK (m := 93) (res := [4]) (rs := [.tmp 4]) rfl Tryd.func42 rfl rfl rfl rfl rfl ?_
                repeat' (first
    | simp only [*, go_seq, go_cond, go_block, go_skip, go_exit, go_retc, go_xcode, go_xblk, go_region, go_ops_nil, go_ops, okG_some, okB_some, gwD_bool, cwD_bool, gw_true, gw_false, guardG, opG, isPtr, inB, sval, stake, eats, eaters, get, cval, cval1, croom, St.taken, put_slot, put_room, put_box, dem_none, dem_slot, dem_box, setBox_slot, setBox_room, setBox_box, entry_slot, entry_room, entry_box, entry_ctr, endQ, endR, endV, rvars, rvar, room1, ↓reduceIte, Nat.reduceEqDiff, Nat.reduceLT, reduceCtorEq, decide_true, decide_false, List.filterMap_cons, List.filterMap_nil, Option.bind_some, Option.map_some, List.getElem?_cons_zero, List.getElem?_cons_succ, List.getD_cons_zero, List.getD_cons_succ, List.contains_cons, List.contains_nil, List.map_cons, List.map_nil, beq_self_eq_true, Bool.or_false, Bool.and_true, Bool.true_and, Nat.reduceBEq, Bool.false_eq_true, dbin, dIntBin, okR, callG, row11, frz11, frzOf_def, frz_nil, beq_true, Bool.not_false, pureB, leaf, leafN, List.all_cons, List.all_nil, List.nil_append, List.append_nil, List.take_nil, List.range_zero, List.length_nil, List.length_cons, List.getElem?_nil, dcells, Nat.zero_add, Nat.reduceAdd, stepBox, and_self, Nat.add_zero, ge_iff_le, dStrBin, dp3, dp9, ty26, fp26_0, fp26_1, fp26_2, fp26_3, fp26_4, fp26_5, fp26_6, len22, dp23, dp24]
    | (refine drW_intro (by kernel_rfl) ?_)
    | (refine gw_intro (fun h => ?_) (fun h => ?_) <;> (try simp only [beq_true, beq_false, Bool.not_eq_eq_eq_not, Bool.not_true, Bool.not_false, Bool.not_not, decide_eq_true_eq, decide_eq_false_iff_not, ge_iff_le, gt_iff_lt] at h)))
    · by_cases k2 : k = 2
      · subst k2
        refine callK (m := 93) (res := [4]) (rs := [.tmp 4]) rfl Tryd.func42 rfl rfl rfl rfl rfl ?_
        repeat' (first
    | simp only [*, go_seq, go_cond, go_block, go_skip, go_exit, go_retc, go_xcode, go_xblk, go_region, go_ops_nil, go_ops, okG_some, okB_some, gwD_bool, cwD_bool, gw_true, gw_false, guardG, opG, isPtr, inB, sval, stake, eats, eaters, get, cval, cval1, croom, St.taken, put_slot, put_room, put_box, dem_none, dem_slot, dem_box, setBox_slot, setBox_room, setBox_box, entry_slot, entry_room, entry_box, entry_ctr, endQ, endR, endV, rvars, rvar, room1, ↓reduceIte, Nat.reduceEqDiff, Nat.reduceLT, reduceCtorEq, decide_true, decide_false, List.filterMap_cons, List.filterMap_nil, Option.bind_some, Option.map_some, List.getElem?_cons_zero, List.getElem?_cons_succ, List.getD_cons_zero, List.getD_cons_succ, List.contains_cons, List.contains_nil, List.map_cons, List.map_nil, beq_self_eq_true, Bool.or_false, Bool.and_true, Nat.reduceBEq, Bool.false_eq_true, dbin, dIntBin, okR, callG, row11, frz11, frzOf_def, frz_nil, beq_true, pureB, leaf, leafN, List.all_cons, List.all_nil, List.take_nil, List.range_zero, List.length_nil, List.length_cons, List.getElem?_nil, dcells, Nat.zero_add, Nat.reduceAdd, stepBox, and_self, Nat.add_zero, ge_iff_le, dStrBin, Int.reduceBEq, dp3, ty26, fp26_0, fp26_1, len22, frz11b]
    | (refine drW_intro (by kernel_rfl) ?_)
    | (refine gw_intro (fun h => ?_) (fun h => ?_) <;> (try simp only [beq_true, beq_false, Bool.not_eq_eq_eq_not, Bool.not_true, Bool.not_false, Bool.not_not, decide_eq_true_eq, decide_eq_false_iff_not, ge_iff_le, gt_iff_lt] at h)))
      · by_cases k3 : k = 3
        · subst k3
          cases c1 : (sp == []) with
          | false =>
            refine callK (m := 93) (res := [4]) (rs := [.tmp 4]) rfl Tryd.func42 rfl rfl rfl rfl rfl ?_
            repeat' (first
    | simp only [*, go_seq, go_cond, go_block, go_skip, go_exit, go_retc, go_xcode, go_xblk, go_region, go_ops_nil, go_ops, okG_some, okB_some, gwD_bool, cwD_bool, gw_true, gw_false, guardG, opG, isPtr, inB, sval, stake, eats, eaters, get, cval, cval1, croom, St.taken, put_slot, put_room, put_box, dem_none, dem_slot, dem_box, setBox_slot, setBox_room, setBox_box, entry_slot, entry_room, entry_box, entry_ctr, endQ, endR, endV, rvars, rvar, room1, ↓reduceIte, Nat.reduceEqDiff, Nat.reduceLT, reduceCtorEq, decide_true, decide_false, List.filterMap_cons, List.filterMap_nil, Option.bind_some, Option.map_some, List.getElem?_cons_zero, List.getElem?_cons_succ, List.getD_cons_zero, List.getD_cons_succ, List.contains_cons, List.contains_nil, List.map_cons, List.map_nil, beq_self_eq_true, Bool.or_false, Bool.and_true, Nat.reduceBEq, Bool.false_eq_true, dbin, dIntBin, okR, callG, row11, frz11, frzOf_def, frz_nil, beq_true, pureB, leaf, leafN, List.all_cons, List.all_nil, List.nil_append, List.take_nil, List.range_zero, List.length_nil, List.length_cons, List.getElem?_nil, dcells, Nat.zero_add, Nat.reduceAdd, stepBox, Bool.false_and, and_self, Nat.add_zero, ge_iff_le, dStrBin, Int.reduceBEq, dp3, dp9, ty26, fp26_0, fp26_1, fp26_2, len22]
    | (refine drW_intro (by kernel_rfl) ?_)
    | (refine gw_intro (fun h => ?_) (fun h => ?_) <;> (try simp only [beq_true, beq_false, Bool.not_eq_eq_eq_not, Bool.not_true, Bool.not_false, Bool.not_not, decide_eq_true_eq, decide_eq_false_iff_not, ge_iff_le, gt_iff_lt] at h)))
          | true =>
            cases c2 : (nm == []) with
            | false =>
              refine callK (m := 93) (res := [4]) (rs := [.tmp 4]) rfl Tryd.func42 rfl rfl rfl rfl rfl ?_
              repeat' (first
    | simp only [*, go_seq, go_cond, go_block, go_skip, go_exit, go_retc, go_xcode, go_xblk, go_region, go_ops_nil, go_ops, okG_some, okB_some, gwD_bool, cwD_bool, gw_true, gw_false, guardG, opG, isPtr, inB, sval, stake, eats, eaters, get, cval, cval1, croom, St.taken, put_slot, put_room, put_box, dem_none, dem_slot, dem_box, setBox_slot, setBox_room, setBox_box, entry_slot, entry_room, entry_box, entry_ctr, endQ, endR, endV, rvars, rvar, room1, ↓reduceIte, Nat.reduceEqDiff, Nat.reduceLT, reduceCtorEq, decide_true, decide_false, List.filterMap_cons, List.filterMap_nil, Option.bind_some, Option.map_some, List.getElem?_cons_zero, List.getElem?_cons_succ, List.getD_cons_zero, List.getD_cons_succ, List.contains_cons, List.contains_nil, List.map_cons, List.map_nil, beq_self_eq_true, Bool.or_false, Bool.and_true, Nat.reduceBEq, Bool.false_eq_true, dbin, dIntBin, okR, callG, row11, frz11, frzOf_def, frz_nil, beq_true, pureB, leaf, leafN, List.all_cons, List.all_nil, List.nil_append, List.take_nil, List.range_zero, List.length_nil, List.length_cons, List.getElem?_nil, dcells, Nat.zero_add, Nat.reduceAdd, stepBox, Bool.and_false, Bool.false_and, and_self, Nat.add_zero, ge_iff_le, dStrBin, Int.reduceBEq, dp3, dp9, ty26, fp26_0, fp26_1, fp26_2, fp26_3, len22]
    | (refine drW_intro (by kernel_rfl) ?_)
    | (refine gw_intro (fun h => ?_) (fun h => ?_) <;> (try simp only [beq_true, beq_false, Bool.not_eq_eq_eq_not, Bool.not_true, Bool.not_false, Bool.not_not, decide_eq_true_eq, decide_eq_false_iff_not, ge_iff_le, gt_iff_lt] at h)))
            | true =>
              cases c3 : ((la.length : Int) == 0) with
              | false =>
                refine callK (m := 93) (res := [4]) (rs := [.tmp 4]) rfl Tryd.func42 rfl rfl rfl rfl rfl ?_
                repeat' (first
    | simp only [*, go_seq, go_cond, go_block, go_skip, go_exit, go_retc, go_xcode, go_xblk, go_region, go_ops_nil, go_ops, okG_some, okB_some, gwD_bool, cwD_bool, gw_true, gw_false, guardG, opG, isPtr, inB, sval, stake, eats, eaters, get, cval, cval1, croom, St.taken, put_slot, put_room, put_box, dem_none, dem_slot, dem_box, setBox_slot, setBox_room, setBox_box, entry_slot, entry_room, entry_box, entry_ctr, endQ, endR, endV, rvars, rvar, room1, ↓reduceIte, Nat.reduceEqDiff, Nat.reduceLT, reduceCtorEq, decide_true, decide_false, List.filterMap_cons, List.filterMap_nil, Option.bind_some, Option.map_some, List.getElem?_cons_zero, List.getElem?_cons_succ, List.getD_cons_zero, List.getD_cons_succ, List.contains_cons, List.contains_nil, List.map_cons, List.map_nil, beq_self_eq_true, Bool.or_false, Bool.and_true, Nat.reduceBEq, Bool.false_eq_true, dbin, dIntBin, okR, callG, row11, frz11, frzOf_def, frz_nil, beq_true, pureB, leaf, leafN, List.all_cons, List.all_nil, List.nil_append, List.take_nil, List.range_zero, List.length_nil, List.length_cons, List.getElem?_nil, dcells, Nat.zero_add, Nat.reduceAdd, stepBox, Bool.and_false, Bool.false_and, and_self, Nat.add_zero, ge_iff_le, dStrBin, Int.reduceBEq, dp3, dp9, ty26, fp26_0, fp26_1, fp26_2, fp26_3, fp26_4, len22, dp23, len23]
    | (refine drW_intro (by kernel_rfl) ?_)
    | (refine gw_intro (fun h => ?_) (fun h => ?_) <;> (try simp only [beq_true, beq_false, Bool.not_eq_eq_eq_not, Bool.not_true, Bool.not_false, Bool.not_not, decide_eq_true_eq, decide_eq_false_iff_not, ge_iff_le, gt_iff_lt] at h)))
              | true =>
                cases c4 : ((ls.length : Int) == 0) with
                | false =>
                  refine callK (m := 93) (res := [4]) (rs := [.tmp 4]) rfl Tryd.func42 rfl rfl rfl rfl rfl ?_
                  repeat' (first
    | simp only [*, go_seq, go_cond, go_block, go_skip, go_exit, go_retc, go_xcode, go_xblk, go_region, go_ops_nil, go_ops, okG_some, okB_some, gwD_bool, cwD_bool, gw_true, gw_false, guardG, opG, isPtr, inB, sval, stake, eats, eaters, get, cval, cval1, croom, St.taken, put_slot, put_room, put_box, dem_none, dem_slot, dem_box, setBox_slot, setBox_room, setBox_box, entry_slot, entry_room, entry_box, entry_ctr, endQ, endR, endV, rvars, rvar, room1, ↓reduceIte, Nat.reduceEqDiff, Nat.reduceLT, reduceCtorEq, decide_true, decide_false, List.filterMap_cons, List.filterMap_nil, Option.bind_some, Option.map_some, List.getElem?_cons_zero, List.getElem?_cons_succ, List.getD_cons_zero, List.getD_cons_succ, List.contains_cons, List.contains_nil, List.map_cons, List.map_nil, beq_self_eq_true, Bool.or_false, Bool.and_true, Nat.reduceBEq, Bool.false_eq_true, dbin, dIntBin, okR, callG, row11, frz11, frzOf_def, frz_nil, beq_true, pureB, leaf, leafN, List.all_cons, List.all_nil, List.nil_append, List.take_nil, List.range_zero, List.length_nil, List.length_cons, List.getElem?_nil, dcells, Nat.zero_add, Nat.reduceAdd, stepBox, Bool.and_false, Bool.false_and, and_self, Nat.add_zero, ge_iff_le, dStrBin, Int.reduceBEq, dp3, dp9, ty26, fp26_0, fp26_1, fp26_2, fp26_3, fp26_4, fp26_5, len22, dp23, len23, dp24, len24]
    | (refine drW_intro (by kernel_rfl) ?_)
    | (refine gw_intro (fun h => ?_) (fun h => ?_) <;> (try simp only [beq_true, beq_false, Bool.not_eq_eq_eq_not, Bool.not_true, Bool.not_false, Bool.not_not, decide_eq_true_eq, decide_eq_false_iff_not, ge_iff_le, gt_iff_lt] at h)))
                | true =>
                  refine callK (m := 93) (res := [4]) (rs := [.tmp 4]) rfl Tryd.func42 rfl rfl rfl rfl rfl ?_
                  repeat' (first
    | simp only [*, go_seq, go_cond, go_block, go_skip, go_exit, go_retc, go_xcode, go_xblk, go_region, go_ops_nil, go_ops, okG_some, okB_some, gwD_bool, cwD_bool, gw_true, gw_false, guardG, opG, isPtr, inB, sval, stake, eats, eaters, get, cval, cval1, croom, St.taken, put_slot, put_room, put_box, dem_none, dem_slot, dem_box, setBox_slot, setBox_room, setBox_box, entry_slot, entry_room, entry_box, entry_ctr, endQ, endR, endV, rvars, rvar, room1, ↓reduceIte, Nat.reduceEqDiff, Nat.reduceLT, reduceCtorEq, decide_true, decide_false, List.filterMap_cons, List.filterMap_nil, Option.bind_some, Option.map_some, List.getElem?_cons_zero, List.getElem?_cons_succ, List.getD_cons_zero, List.getD_cons_succ, List.contains_cons, List.contains_nil, List.map_cons, List.map_nil, beq_self_eq_true, Bool.or_false, Bool.and_true, Bool.true_and, Nat.reduceBEq, Bool.false_eq_true, dbin, dIntBin, okR, callG, row11, frz11, frzOf_def, frz_nil, beq_true, pureB, leaf, leafN, List.all_cons, List.all_nil, List.nil_append, List.append_nil, List.take_nil, List.range_zero, List.length_nil, List.length_cons, List.getElem?_nil, dcells, Nat.zero_add, Nat.reduceAdd, stepBox, and_self, Nat.add_zero, ge_iff_le, dStrBin, Int.reduceBEq, dp3, dp9, ty26, fp26_0, fp26_1, fp26_2, fp26_3, fp26_4, fp26_5, fp26_6, len22, dp23, len23, dp24, len24]
    | (refine drW_intro (by kernel_rfl) ?_)
    | (refine gw_intro (fun h => ?_) (fun h => ?_) <;> (try simp only [beq_true, beq_false, Bool.not_eq_eq_eq_not, Bool.not_true, Bool.not_false, Bool.not_not, decide_eq_true_eq, decide_eq_false_iff_not, ge_iff_le, gt_iff_lt] at h)))
        · have b1 : (k == 1) = false := by simpa using k1
          have b2 : (k == 2) = false := by simpa using k2
          have b3 : (k == 3) = false := by simpa using k3
          refine callK (m := 93) (res := [4]) (rs := [.tmp 4]) rfl Tryd.func42 rfl rfl rfl rfl rfl ?_
          repeat' (first
    | simp only [*, go_seq, go_cond, go_block, go_skip, go_exit, go_retc, go_xcode, go_xblk, go_region, go_ops_nil, go_ops, okG_some, okB_some, gwD_bool, cwD_bool, gw_true, gw_false, guardG, opG, isPtr, inB, sval, stake, eats, eaters, get, cval, cval1, croom, St.taken, put_slot, put_room, put_box, dem_none, dem_slot, dem_box, setBox_slot, setBox_room, setBox_box, entry_slot, entry_room, entry_box, entry_ctr, endQ, endR, endV, rvars, rvar, room1, ↓reduceIte, Nat.reduceEqDiff, Nat.reduceLT, reduceCtorEq, decide_true, decide_false, List.filterMap_cons, List.filterMap_nil, Option.bind_some, Option.map_some, List.getElem?_cons_zero, List.getElem?_cons_succ, List.getD_cons_zero, List.getD_cons_succ, List.contains_cons, List.contains_nil, List.map_cons, List.map_nil, beq_self_eq_true, Bool.or_false, Bool.and_true, Nat.reduceBEq, Bool.false_eq_true, dbin, dIntBin, okR, callG, row11, frz11, frzOf_def, frz_nil, beq_true, pureB, leaf, leafN, List.all_cons, List.all_nil, List.take_nil, List.range_zero, List.length_nil, List.length_cons, List.getElem?_nil, dcells, Nat.zero_add, Nat.reduceAdd, stepBox, and_self, Nat.add_zero, ge_iff_le, dStrBin, dp3, ty26, fp26_0, fp26_1, len22, frz11b]
    | (refine drW_intro (by kernel_rfl) ?_)
    | (refine gw_intro (fun h => ?_) (fun h => ?_) <;> (try simp only [beq_true, beq_false, Bool.not_eq_eq_eq_not, Bool.not_true, Bool.not_false, Bool.not_not, decide_eq_true_eq, decide_eq_false_iff_not, ge_iff_le, gt_iff_lt] at h)))
theorem par_L (ahead : List Nd) (n : Nd) (h : parOk ahead n.p = false) : callL Tryd.prog (ext11b chk) 42 [.list (ahead.map Nd.d), n.d] [] = some (.bool false, [.no], []) := by
  obtain ⟨p, k, sp, nm, la, ls, tx⟩ := n
  have lN := lenM ahead Nd.d
  unfold parOk at h
  simp only [Nd.d]
  simp only [] at h
  generalize la.map At.d = LA at *
  generalize ls.map D.str = LS at *
  by_cases h1 : p < -1
  · generalize ahead.map Nd.d = AH at *
    clear lN h
    refine callK (m := 93) (res := [4]) (rs := [.tmp 4]) rfl Tryd.func42 rfl rfl rfl rfl rfl ?_
    repeat' (first
    | simp only [*, go_seq, go_cond, go_retc, go_region, go_ops_nil, go_ops, okG_some, okB_some, gwD_bool, gwD_undef, cwD_bool, gw_true, gw_false, guardG, opG, isPtr, inB, sval, stake, eats, eaters, get, cval, cval1, croom, St.taken, put_slot, put_room, put_box, dem_none, setBox_slot, setBox_room, setBox_box, entry_slot, entry_room, entry_box, entry_ctr, endQ, endR, endV, rvars, rvar, room1, ↓reduceIte, Nat.reduceEqDiff, Nat.reduceLT, decide_true, List.filterMap_cons, List.filterMap_nil, Option.bind_some, Option.map_some, List.getElem?_cons_zero, List.getElem?_cons_succ, List.getD_cons_zero, List.getD_cons_succ, List.contains_cons, List.contains_nil, List.map_nil, Bool.or_false, Bool.and_true, Bool.false_eq_true, dbin, dIntBin, okR, callG, row11, frz11, frzOf_def, frz_nil, beq_false, Bool.not_true, pureB, leaf, leafN, List.all_cons, List.all_nil, List.take_nil, List.range_zero, List.length_nil, List.length_cons, List.getElem?_nil, dcells, Nat.zero_add, Nat.reduceAdd, stepBox, and_self, Nat.add_zero, dStrBin, dp3, ty26, fp26_0, frz11b]
    | (refine drW_intro (by kernel_rfl) ?_)
    | (refine gw_intro (fun h => ?_) (fun h => ?_) <;> (try simp only [beq_true, beq_false, Bool.not_eq_eq_eq_not, Bool.not_true, Bool.not_false, Bool.not_not, decide_eq_true_eq, decide_eq_false_iff_not, ge_iff_le, gt_iff_lt] at h)))
  · by_cases h2 : (ahead.length : Int) ≤ p
    · generalize ahead.map Nd.d = AH at *
      have h2' : (AH.length : Int) ≤ p := by omega
      clear lN h h2
      refine callK (m := 93) (res := [4]) (rs := [.tmp 4]) rfl Tryd.func42 rfl rfl rfl rfl rfl ?_
      repeat' (first
    | simp only [*, go_seq, go_cond, go_retc, go_region, go_ops_nil, go_ops, okG_some, okB_some, gwD_bool, gwD_undef, cwD_bool, gw_true, gw_false, guardG, opG, isPtr, inB, sval, stake, eats, eaters, get, cval, cval1, croom, St.taken, put_slot, put_room, put_box, dem_none, setBox_slot, setBox_room, setBox_box, entry_slot, entry_room, entry_box, entry_ctr, endQ, endR, endV, rvars, rvar, room1, ↓reduceIte, Nat.reduceEqDiff, Nat.reduceLT, reduceCtorEq, decide_true, decide_false, List.filterMap_cons, List.filterMap_nil, Option.bind_some, Option.map_some, List.getElem?_cons_zero, List.getElem?_cons_succ, List.getD_cons_zero, List.getD_cons_succ, List.contains_cons, List.contains_nil, List.map_cons, List.map_nil, beq_self_eq_true, Bool.or_false, Bool.and_true, Bool.false_eq_true, dbin, dIntBin, okR, callG, row11, frz11, frzOf_def, frz_nil, beq_false, Bool.not_true, pureB, leaf, leafN, List.all_cons, List.all_nil, List.take_nil, List.range_zero, List.length_nil, List.length_cons, List.getElem?_nil, dcells, Nat.zero_add, Nat.reduceAdd, stepBox, and_self, Nat.add_zero, ge_iff_le, dStrBin, dp3, ty26, fp26_0, len22, frz11b]
    | (refine drW_intro (by kernel_rfl) ?_)
    | (refine gw_intro (fun h => ?_) (fun h => ?_) <;> (try simp only [beq_true, beq_false, Bool.not_eq_eq_eq_not, Bool.not_true, Bool.not_false, Bool.not_not, decide_eq_true_eq, decide_eq_false_iff_not, ge_iff_le, gt_iff_lt] at h)))
    · by_cases h0 : 0 ≤ p
      · obtain ⟨p', k', sp', nm', la', ls', tx', ha, hk⟩ := kind_at (ahead := ahead) h0 (by omega)
        rw [hk] at h
        have h4 : (k' != 1) = true := by simpa [h0, h1, h2] using h
        generalize ahead.map Nd.d = AH at *
        have gp : p < AH.length := by omega
        have h2' : ¬ (AH.length : Int) ≤ p := by omega
        clear lN h2 h hk
        refine callK (m := 93) (res := [4]) (rs := [.tmp 4]) rfl Tryd.func42 rfl rfl rfl rfl rfl ?_
        repeat' (first
    | simp only [*, go_seq, go_cond, go_retc, go_region, go_ops_nil, go_ops, okG_some, okB_some, gwD_bool, cwD_bool, gw_true, guardG, opG, isPtr, inB, sval, stake, eats, eaters, get, cval, cval1, croom, St.taken, put_slot, put_room, put_box, dem_none, setBox_slot, setBox_room, setBox_box, entry_slot, entry_room, entry_box, entry_ctr, endQ, endR, endV, rvars, rvar, room1, ↓reduceIte, Nat.reduceEqDiff, Nat.reduceLT, reduceCtorEq, decide_true, decide_false, List.filterMap_cons, List.filterMap_nil, Option.bind_some, Option.map_some, List.getElem?_cons_zero, List.getElem?_cons_succ, List.getD_cons_zero, List.getD_cons_succ, List.contains_cons, List.contains_nil, List.map_cons, List.map_nil, beq_self_eq_true, Bool.or_false, Bool.and_true, Bool.false_eq_true, dbin, dIntBin, okR, callG, row11, frz11, frzOf_def, frz_nil, pureB, leaf, leafN, List.all_cons, List.all_nil, List.take_nil, List.range_zero, List.length_nil, List.length_cons, List.getElem?_nil, dcells, Nat.zero_add, Nat.reduceAdd, stepBox, and_self, Nat.add_zero, ge_iff_le, dStrBin, dp3, ty26, fp26_0, fa26_1, ia22, len22, frz11b]
    | (refine drW_intro (by kernel_rfl) ?_)
    | (refine gw_intro (fun h => ?_) (fun h => ?_) <;> (try simp only [beq_true, beq_false, Bool.not_eq_eq_eq_not, Bool.not_true, Bool.not_false, Bool.not_not, decide_eq_true_eq, decide_eq_false_iff_not, ge_iff_le, gt_iff_lt] at h)))
      · simp [h0, h1, h2] at h
theorem node_L (ahead : List Nd) (n : Nd) (hn : SmallN n) : callL Tryd.prog (ext11b chk) 42 [.list (ahead.map Nd.d), n.d] [] = some (.bool (nodeF ahead n), [.no], []) := by
  unfold nodeF
  cases h : parOk ahead n.p with
  | true => rw [Bool.true_and]; exact body_L ahead n hn h
  | false => rw [Bool.false_and]; exact par_L ahead n h
end Go.Av
