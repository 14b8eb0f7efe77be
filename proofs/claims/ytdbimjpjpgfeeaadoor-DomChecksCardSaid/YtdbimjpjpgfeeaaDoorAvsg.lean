/- The evaluator, in one text: over any program; no conditions but those that each law names. -/
import Derived.Test.YtdbimjpjpgfeeaaDoorAvsf
import Derived.Test.YtdbimjpjpgfeeaaDoorAvsa
import Derived.Test.YtdbimjpjpgfeeaaDoorAvsb
set_option linter.unusedSimpArgs false
set_option linter.unusedVariables false
set_option linter.unusedSectionVars false
/- Chapter 11: whether two nodes, two documents are one, as the document says. -/
set_option linter.unusedSimpArgs false
set_option linter.unusedVariables false
set_option linter.unusedSectionVars false
set_option maxRecDepth 100000
namespace Go.Av
open Go.Proofs
variable {chk : List D → Bool}
theorem nd_eq (p k : Int) (sp nm : List UInt8) (a : List At) (s : List (List UInt8)) (tx : List UInt8) (p' k' : Int) (sp' nm' : List UInt8) (a' : List At) (s' : List (List UInt8)) (tx' : List UInt8) :
    decide ((⟨p, k, sp, nm, a, s, tx⟩ : Nd) = ⟨p', k', sp', nm', a', s', tx'⟩) = ((p == p') && ((k == k') && ((sp == sp') && ((nm == nm') && ((tx == tx') && (decide (a = a') && decide (s = s'))))))) := by
  rw [Bool.eq_iff_iff]
  simp
  intro _ _ _ _
  exact ⟨fun ⟨a, b, c⟩ => ⟨c, a, b⟩, fun ⟨c, a, b⟩ => ⟨a, b, c⟩⟩
set_option maxHeartbeats 16000000 in
theorem rnode_L (x y : Nd) (hx : x.at_.length ≤ 1000000 ∧ x.st.length ≤ 1000000) (hy : y.at_.length ≤ 1000000 ∧ y.st.length ≤ 1000000) : callL Tryd.prog (ext11b chk) 35 [x.d, y.d] [] = some (.bool (decide (x = y)), [.no], []) := by
  obtain ⟨p, k, sp, nm, a, s, tx⟩ := x
  obtain ⟨p', k', sp', nm', a', s', tx'⟩ := y
  have eS := texts_L (chk := chk) s s' hx.2 hy.2
  have lN := lenM a At.d
  have lM := lenM a' At.d
  have HX := Hd.mk hx.1
  clear hx hy
  rw [nd_eq]
  simp only [Nd.d]
  generalize (s.map D.str) = S at *
  generalize (s'.map D.str) = S' at *
  cases h1 : (p == p') with
  | false =>
    have n1 : (p != p') = true := by simp only [bne, h1]; rfl
    clear eS HX
    refine callK (m := 74) (res := [4]) (rs := [.tmp 4]) rfl Tryd.func35 rfl rfl rfl rfl rfl ?_
    repeat' (first
    | simp only [*, go_seq, go_cond, go_retc, go_region, go_ops_nil, go_ops, okG_some, okB_some, gwD_bool, cwD_bool, gw_true, gw_false, guardG, opG, isPtr, inB, sval, stake, eats, eaters, get, cval, cval1, croom, St.taken, put_slot, put_room, put_box, put_ctr, dem_none, setBox_slot, setBox_room, setBox_box, entry_slot, entry_box, entry_ctr, endQ, endR, endV, rvars, rvar, room1, ↓reduceIte, Nat.reduceEqDiff, Nat.reduceLT, decide_true, List.filterMap_cons, List.filterMap_nil, Option.bind_some, Option.map_some, List.getElem?_cons_zero, List.getElem?_cons_succ, List.getD_cons_zero, List.getD_cons_succ, List.contains_cons, List.contains_nil, List.map_nil, Bool.or_false, Bool.and_true, Bool.false_eq_true, dbin, dIntBin, okR, callG, row11, frz11, frzOf_def, frz_nil, beq_false, Bool.not_true, pureB, leaf, leafN, List.all_cons, List.all_nil, List.nil_append, List.take_nil, List.range_zero, List.length_nil, List.length_cons, dun, List.getElem?_nil, dcells, Nat.zero_add, Nat.reduceAdd, stepBox, Bool.false_and, and_self, Nat.add_zero, dStrBin, dp3, ty26, fp26_0, frz11b]
    | (refine drW_intro (by kernel_rfl) ?_)
    | (refine gw_intro (fun h => ?_) (fun h => ?_) <;> (try simp only [beq_true, beq_false, Bool.not_eq_eq_eq_not, Bool.not_true, Bool.not_false, Bool.not_not, decide_eq_true_eq, decide_eq_false_iff_not, ge_iff_le, gt_iff_lt] at h)))
  | true =>
    have n1 : (p != p') = false := by simp only [bne, h1]; rfl
    cases h2 : (k == k') with
    | false =>
      have n2 : (k != k') = true := by simp only [bne, h2]; rfl
      clear eS HX
      refine callK (m := 74) (res := [4]) (rs := [.tmp 4]) rfl Tryd.func35 rfl rfl rfl rfl rfl ?_
      repeat' (first
    | simp only [*, go_seq, go_cond, go_retc, go_region, go_ops_nil, go_ops, okG_some, okB_some, gwD_bool, cwD_bool, gw_true, gw_false, guardG, opG, isPtr, inB, sval, stake, eats, eaters, get, cval, cval1, croom, St.taken, put_slot, put_room, put_box, put_ctr, dem_none, setBox_slot, setBox_room, setBox_box, entry_slot, entry_box, entry_ctr, endQ, endR, endV, rvars, rvar, room1, ↓reduceIte, Nat.reduceEqDiff, Nat.reduceLT, decide_true, List.filterMap_cons, List.filterMap_nil, Option.bind_some, Option.map_some, List.getElem?_cons_zero, List.getElem?_cons_succ, List.getD_cons_zero, List.getD_cons_succ, List.contains_cons, List.contains_nil, List.map_nil, beq_self_eq_true, Bool.or_false, Bool.and_true, Bool.false_eq_true, dbin, dIntBin, okR, callG, row11, frz11, frzOf_def, frz_nil, beq_false, Bool.not_true, pureB, leaf, leafN, List.all_cons, List.all_nil, List.nil_append, List.take_nil, List.range_zero, List.length_nil, List.length_cons, dun, List.getElem?_nil, dcells, Nat.zero_add, Nat.reduceAdd, stepBox, Bool.and_false, Bool.false_and, and_self, Nat.add_zero, dStrBin, dp3, ty26, fp26_0, fp26_1, frz11b]
    | (refine drW_intro (by kernel_rfl) ?_)
    | (refine gw_intro (fun h => ?_) (fun h => ?_) <;> (try simp only [beq_true, beq_false, Bool.not_eq_eq_eq_not, Bool.not_true, Bool.not_false, Bool.not_not, decide_eq_true_eq, decide_eq_false_iff_not, ge_iff_le, gt_iff_lt] at h)))
    | true =>
      have n2 : (k != k') = false := by simp only [bne, h2]; rfl
      cases h3 : (sp == sp') with
      | false =>
        clear eS HX
        refine callK (m := 74) (res := [4]) (rs := [.tmp 4]) rfl Tryd.func35 rfl rfl rfl rfl rfl ?_
        repeat' (first
    | simp only [*, go_seq, go_cond, go_retc, go_region, go_ops_nil, go_ops, okG_some, okB_some, gwD_bool, cwD_bool, gw_true, gw_false, guardG, opG, isPtr, inB, sval, stake, eats, eaters, get, cval, cval1, croom, St.taken, put_slot, put_room, put_box, put_ctr, dem_none, setBox_slot, setBox_room, setBox_box, entry_slot, entry_box, entry_ctr, endQ, endR, endV, rvars, rvar, room1, ↓reduceIte, Nat.reduceEqDiff, Nat.reduceLT, decide_true, List.filterMap_cons, List.filterMap_nil, Option.bind_some, Option.map_some, List.getElem?_cons_zero, List.getElem?_cons_succ, List.getD_cons_zero, List.getD_cons_succ, List.contains_cons, List.contains_nil, List.map_nil, beq_self_eq_true, Bool.or_false, Bool.and_true, Bool.false_eq_true, dbin, dIntBin, okR, callG, row11, frz11, frzOf_def, frz_nil, beq_false, Bool.not_true, Bool.not_false, pureB, leaf, leafN, List.all_cons, List.all_nil, List.nil_append, List.take_nil, List.range_zero, List.length_nil, List.length_cons, dun, List.getElem?_nil, dcells, Nat.zero_add, Nat.reduceAdd, stepBox, Bool.and_false, Bool.false_and, and_self, Nat.add_zero, dStrBin, dp3, dp9, ty26, fp26_0, fp26_1, fp26_2, frz11b]
    | (refine drW_intro (by kernel_rfl) ?_)
    | (refine gw_intro (fun h => ?_) (fun h => ?_) <;> (try simp only [beq_true, beq_false, Bool.not_eq_eq_eq_not, Bool.not_true, Bool.not_false, Bool.not_not, decide_eq_true_eq, decide_eq_false_iff_not, ge_iff_le, gt_iff_lt] at h)))
      | true =>
        cases h4 : (nm == nm') with
        | false =>
          clear eS HX
          refine callK (m := 74) (res := [4]) (rs := [.tmp 4]) rfl Tryd.func35 rfl rfl rfl rfl rfl ?_
          repeat' (first
    | simp only [*, go_seq, go_cond, go_retc, go_region, go_ops_nil, go_ops, okG_some, okB_some, gwD_bool, cwD_bool, gw_true, gw_false, guardG, opG, isPtr, inB, sval, stake, eats, eaters, get, cval, cval1, croom, St.taken, put_slot, put_room, put_box, put_ctr, dem_none, setBox_slot, setBox_room, setBox_box, entry_slot, entry_box, entry_ctr, endQ, endR, endV, rvars, rvar, room1, ↓reduceIte, Nat.reduceEqDiff, Nat.reduceLT, decide_true, List.filterMap_cons, List.filterMap_nil, Option.bind_some, Option.map_some, List.getElem?_cons_zero, List.getElem?_cons_succ, List.getD_cons_zero, List.getD_cons_succ, List.contains_cons, List.contains_nil, List.map_nil, beq_self_eq_true, Bool.or_false, Bool.and_true, Bool.false_eq_true, dbin, dIntBin, okR, callG, row11, frz11, frzOf_def, frz_nil, beq_false, Bool.not_true, Bool.not_false, pureB, leaf, leafN, List.all_cons, List.all_nil, List.nil_append, List.take_nil, List.range_zero, List.length_nil, List.length_cons, dun, List.getElem?_nil, dcells, Nat.zero_add, Nat.reduceAdd, stepBox, Bool.and_false, Bool.false_and, and_self, Nat.add_zero, dStrBin, dp3, dp9, ty26, fp26_0, fp26_1, fp26_2, fp26_3, frz11b]
    | (refine drW_intro (by kernel_rfl) ?_)
    | (refine gw_intro (fun h => ?_) (fun h => ?_) <;> (try simp only [beq_true, beq_false, Bool.not_eq_eq_eq_not, Bool.not_true, Bool.not_false, Bool.not_not, decide_eq_true_eq, decide_eq_false_iff_not, ge_iff_le, gt_iff_lt] at h)))
        | true =>
          cases h5 : (tx == tx') with
          | false =>
            clear eS HX
            refine callK (m := 74) (res := [4]) (rs := [.tmp 4]) rfl Tryd.func35 rfl rfl rfl rfl rfl ?_
            repeat' (first
    | simp only [*, go_seq, go_cond, go_retc, go_region, go_ops_nil, go_ops, okG_some, okB_some, gwD_bool, cwD_bool, gw_true, gw_false, guardG, opG, isPtr, inB, sval, stake, eats, eaters, get, cval, cval1, croom, St.taken, put_slot, put_room, put_box, put_ctr, dem_none, setBox_slot, setBox_room, setBox_box, entry_slot, entry_box, entry_ctr, endQ, endR, endV, rvars, rvar, room1, ↓reduceIte, Nat.reduceEqDiff, Nat.reduceLT, decide_true, List.filterMap_cons, List.filterMap_nil, Option.bind_some, Option.map_some, List.getElem?_cons_zero, List.getElem?_cons_succ, List.getD_cons_zero, List.getD_cons_succ, List.contains_cons, List.contains_nil, List.map_nil, beq_self_eq_true, Bool.or_false, Bool.and_true, Bool.false_eq_true, dbin, dIntBin, okR, callG, row11, frz11, frzOf_def, frz_nil, beq_false, Bool.not_true, Bool.not_false, pureB, leaf, leafN, List.all_cons, List.all_nil, List.nil_append, List.take_nil, List.range_zero, List.length_nil, List.length_cons, dun, List.getElem?_nil, dcells, Nat.zero_add, Nat.reduceAdd, stepBox, Bool.and_false, Bool.false_and, and_self, Nat.add_zero, dStrBin, dp3, dp9, ty26, fp26_0, fp26_1, fp26_2, fp26_3, fp26_6, frz11b]
    | (refine drW_intro (by kernel_rfl) ?_)
    | (refine gw_intro (fun h => ?_) (fun h => ?_) <;> (try simp only [beq_true, beq_false, Bool.not_eq_eq_eq_not, Bool.not_true, Bool.not_false, Bool.not_not, decide_eq_true_eq, decide_eq_false_iff_not, ge_iff_le, gt_iff_lt] at h)))
          | true =>
            by_cases hne : a.length = a'.length
            · have n6 : ((a.length : Int) != a'.length) = false := by simp [hne]
              cases h7 : decide (s = s') with
              | false =>
                rw [Bool.and_false]
                rw [h7] at eS
                clear HX h7 hne
                refine callK (m := 74) (res := [4]) (rs := [.tmp 4]) rfl Tryd.func35 rfl rfl rfl rfl rfl ?_
                repeat' (first
    | simp only [*, go_seq, go_cond, go_retc, go_region, go_ops_nil, go_ops, okG_some, okB_some, gwD_bool, cwD_bool, gw_true, guardG, opG, isPtr, inB, sval, stake, eats, eaters, get, cval, cval1, croom, St.taken, put_slot, put_room, put_box, put_ctr, dem_none, setBox_slot, setBox_room, setBox_box, entry_slot, entry_box, entry_ctr, endQ, endR, endV, rvars, rvar, room1, ↓reduceIte, Nat.reduceEqDiff, Nat.reduceLT, decide_true, List.filterMap_cons, List.filterMap_nil, Option.bind_some, Option.map_some, List.getElem?_cons_zero, List.getElem?_cons_succ, List.getD_cons_zero, List.getD_cons_succ, List.contains_cons, List.contains_nil, List.map_cons, List.map_nil, beq_self_eq_true, Bool.or_false, Bool.and_true, Bool.false_eq_true, dbin, dIntBin, okR, callG, row11, frz11, frzOf_def, frz_nil, Bool.not_true, Bool.not_false, pureB, leaf, leafN, List.all_cons, List.all_nil, List.nil_append, List.append_nil, List.take_nil, List.range_zero, List.length_nil, List.length_cons, dun, List.getElem?_nil, dcells, Nat.zero_add, Nat.reduceAdd, stepBox, Bool.and_false, and_self, Nat.add_zero, dStrBin, dp3, dp9, ty26, fp26_0, fp26_1, fp26_2, fp26_3, fp26_4, fp26_5, fp26_6, dp23, len23, dp24, frz11b]
    | (refine drW_intro (by kernel_rfl) ?_)
    | (refine gw_intro (fun h => ?_) (fun h => ?_) <;> (try simp only [beq_true, beq_false, Bool.not_eq_eq_eq_not, Bool.not_true, Bool.not_false, Bool.not_not, decide_eq_true_eq, decide_eq_false_iff_not, ge_iff_le, gt_iff_lt] at h)))
              | true =>
                rw [h7] at eS
                have HE := Hd.mk hne
                clear h7 hne
                simp only [Bool.and_true, Bool.true_and]
                obtain ⟨R, hR⟩ : ∃ R, Hd (R = decide (a = a')) := ⟨_, rfl⟩
                rw [← (show R = decide (a = a') from hR)]
                refine callK (m := 74) (res := [4]) (rs := [.tmp 4]) rfl Tryd.func35 rfl rfl rfl rfl rfl ?_
                repeat' (first
    | simp only [*, go_seq, go_cond, go_block, go_skip, go_loop, go_region, go_ops_nil, go_ops, okG_some, okB_some, gwD_bool, cwD_bool, gw_true, gw_false, guardG, opG, isPtr, inB, sval, stake, eats, eaters, get, cval, cval1, croom, St.taken, put_slot, put_box, put_ctr, dem_none, setBox_slot, setBox_room, setBox_box, entry_slot, entry_ctr, ↓reduceIte, Nat.reduceEqDiff, Nat.reduceLT, decide_true, List.filterMap_cons, List.filterMap_nil, Option.bind_some, Option.map_some, List.getElem?_cons_zero, List.getElem?_cons_succ, List.getD_cons_zero, List.getD_cons_succ, List.contains_cons, List.contains_nil, List.map_cons, List.map_nil, beq_self_eq_true, Bool.or_false, Bool.and_true, Bool.false_eq_true, dbin, dIntBin, okR, callG, row11, frz11, frzOf_def, frz_nil, Bool.not_true, pureB, leaf, leafN, List.all_cons, List.all_nil, List.nil_append, List.append_nil, List.length_nil, List.length_cons, dun, dcells, Nat.zero_add, Nat.reduceAdd, stepBox, and_self, Nat.add_zero, dStrBin, dp3, dp9, ty26, fp26_0, fp26_1, fp26_2, fp26_3, fp26_4, fp26_5, fp26_6, dp23, len23, dp24, frz11b]
    | (refine drW_intro (by kernel_rfl) ?_)
    | (refine gw_intro (fun h => ?_) (fun h => ?_) <;> (try simp only [beq_true, beq_false, Bool.not_eq_eq_eq_not, Bool.not_true, Bool.not_false, Bool.not_not, decide_eq_true_eq, decide_eq_false_iff_not, ge_iff_le, gt_iff_lt] at h)))
                refine loopH (fun st => ∃ i : Nat, i ≤ a.length ∧ st.slot 5 = .int .i64 i ∧ st.slot 2 = .ptr 2 1 0 ∧ st.box 2 = some ⟨1, [.int .i64 p, .int .i64 k, .str sp, .str nm, .list (a.map At.d), .list S, .str tx]⟩ ∧ st.slot 3 = .ptr 3 2 0 ∧ st.box 3 = some ⟨2, [.int .i64 p', .int .i64 k', .str sp', .str nm', .list (a'.map At.d), .list S', .str tx']⟩ ∧ st.slot 4 = .bool false ∧ st.room 4 = [] ∧ Hd (R = decide (a.drop i = a'.drop i))) (fun st => a.length - slotI st 5) ?_ ?_
                · refine ⟨0, Nat.zero_le _, ?_, ?_, ?_, ?_, ?_, ?_, ?_, hR⟩
                  all_goals simp only [*, put_slot, put_room, put_box, setBox_box, ↓reduceIte, Nat.reduceEqDiff]
                  all_goals rfl
                · rintro st K ⟨i, hi, g5, g2, b2, g3, b3, g4, gr, hO⟩ hn hx hr
                  have hl : a.length ≤ 1000000 := HX
                  have hne : a.length = a'.length := HE
                  by_cases h : i < a.length
                  · have g9 : (i : Int) < a.length := by omega
                    have g9' : (i : Int) < a'.length := by omega
                    have hw := wrapS i (by omega)
                    obtain ⟨x, hx1⟩ := some_at h
                    obtain ⟨y, hy1⟩ := some_at (show i < a'.length by omega)
                    have hO' : R = decide (a.drop i = a'.drop i) := hO
                    rw [drop_eq hx1 hy1] at hO'
                    have ha := getD_map (f := At.d) hx1
                    have hb1 := getD_map (f := At.d) hy1
                    obtain ⟨a1, a2, a3⟩ := x
                    obtain ⟨b1, b2', b3'⟩ := y
                    have ha2 : (a.map At.d).getD i .bad = .agg [.str a1, .str a2, .str a3] := ha
                    have hb2 : (a'.map At.d).getD i .bad = .agg [.str b1, .str b2', .str b3'] := hb1
                    clear ha hb1
                    have hqq := at_eq ⟨a1, a2, a3⟩ ⟨b1, b2', b3'⟩
                    simp only [] at hqq
                    cases he : decide ((⟨a1, a2, a3⟩ : At) = ⟨b1, b2', b3'⟩) with
                    | false =>
                      rw [he, Bool.false_and] at hO'
                      subst hO'
                      rw [he] at hqq
                      clear hO hn hx hl hne hx1 hy1 hR
                      repeat' (first
    | simp only [*, go_seq, go_cond, go_block, go_skip, go_retc, go_region, go_draw, go_ops_nil, go_ops, go_dops1, go_dops, okG_some, cwD_bool, gw_true, guardG, opG, opD, isPtr, isStore, inB, sval, stake, eats, eaters, get, cval, cval1, croom, St.taken, put_slot, put_box, dem_none, ↓reduceIte, Nat.reduceEqDiff, Nat.reduceLT, reduceCtorEq, decide_true, List.filterMap_cons, List.filterMap_nil, Option.map_some, Option.bind_none, List.getElem?_cons_zero, List.getElem?_cons_succ, List.contains_cons, List.contains_nil, List.map_cons, List.map_nil, beq_iff_eq, Bool.or_false, Bool.false_eq_true, dbin, dIntBin, row11, frz11, frzOf_def, frz_nil, allocKey, isAlloc, loadsOwn, Bool.not_false, List.length_nil, List.length_cons, List.find?_cons, List.find?_nil, dcells, Nat.zero_add, Nat.reduceAdd, Int.natCast_nonneg, Int.toNat_natCast, and_self, fp26_4, dp54, dp23, ia23, len23, eq54, frz11b]
    | (refine drW_intro (by kernel_rfl) ?_)
    | (refine gw_intro (fun h => ?_) (fun h => ?_) <;> (try simp only [beq_true, beq_false, Bool.not_eq_eq_eq_not, Bool.not_true, Bool.not_false, Bool.not_not, decide_eq_true_eq, decide_eq_false_iff_not, ge_iff_le, gt_iff_lt] at h)))
                      refine hr _ ?_
                      repeat' (first
    | simp only [*, put_slot, put_room, put_box, endQ, endR, endV, rvars, rvar, room1, ↓reduceIte, List.map_nil, pureB, leaf, leafN, List.take_nil, List.range_zero, and_self]
    | (refine drW_intro (by kernel_rfl) ?_)
    | (refine gw_intro (fun h => ?_) (fun h => ?_) <;> (try simp only [beq_true, beq_false, Bool.not_eq_eq_eq_not, Bool.not_true, Bool.not_false, Bool.not_not, decide_eq_true_eq, decide_eq_false_iff_not, ge_iff_le, gt_iff_lt] at h)))
                    | true =>
                      rw [he, Bool.true_and] at hO'
                      rw [he] at hqq
                      have HO := Hd.mk hO'
                      clear hO hO' hx hr hl hne hx1 hy1
                      repeat' (first
    | simp only [*, go_nil, go_seq, go_cond, go_block, go_blk, go_skip, go_region, go_draw, go_ops_nil, go_ops, go_dops1, go_dops, okG_some, cwD_bool, gw_true, gw_false, guardG, opG, opD, isPtr, isStore, inB, sval, stake, eats, eaters, get, cval, cval1, St.taken, put_slot, put_room, put_box, dem_none, ↓reduceIte, Nat.reduceEqDiff, Nat.reduceLT, reduceCtorEq, decide_true, List.filterMap_cons, List.filterMap_nil, Option.map_some, Option.bind_none, List.getElem?_cons_zero, List.getElem?_cons_succ, List.contains_cons, List.contains_nil, List.map_cons, List.map_nil, beq_iff_eq, Bool.or_false, Nat.reduceBEq, Bool.false_eq_true, dbin, dIntBin, row11, frz11, frzOf_def, frz_nil, allocKey, isAlloc, loadsOwn, Bool.not_true, List.length_nil, List.length_cons, List.find?_cons, List.find?_nil, dcells, Nat.zero_add, Nat.reduceAdd, Int.natCast_nonneg, Int.toNat_natCast, and_self, fp26_4, dp54, dp23, ia23, len23, eq54]
    | (refine drW_intro (by kernel_rfl) ?_)
    | (refine gw_intro (fun h => ?_) (fun h => ?_) <;> (try simp only [beq_true, beq_false, Bool.not_eq_eq_eq_not, Bool.not_true, Bool.not_false, Bool.not_not, decide_eq_true_eq, decide_eq_false_iff_not, ge_iff_le, gt_iff_lt] at h)))
                      refine hn _ ⟨i + 1, h, ?_, ?_, ?_, ?_, ?_, ?_, ?_, HO⟩ ?_
                      · simp only [*, put_slot, ↓reduceIte]
                      · simp only [*, put_slot, dem_slot, ↓reduceIte, Nat.reduceEqDiff]
                      · simp only [*, put_box, dem_box]
                      · simp only [*, put_slot, dem_slot, ↓reduceIte, Nat.reduceEqDiff]
                      · simp only [*, put_box, dem_box]
                      · simp only [*, put_slot, dem_slot, ↓reduceIte, Nat.reduceEqDiff]
                      · simp only [*, put_room, dem_room, ↓reduceIte, Nat.reduceEqDiff]
                      · simp only [slotI, *, put_slot, ↓reduceIte, Int.toNat_natCast]
                        omega
                  · have g9 : ¬ (i : Int) < a.length := by omega
                    have hO' : R = decide (a.drop i = a'.drop i) := hO
                    rw [drop_end hne (by omega)] at hO'
                    subst hO'
                    clear hO hn hr hl hne hR
                    repeat' (first
    | simp only [*, go_nil, go_seq, go_cond, go_exit, go_xcode, go_region, go_ops_nil, go_ops, okG_some, cwD_bool, gw_false, guardG, opG, isPtr, inB, sval, stake, eats, eaters, get, St.taken, put_slot, put_box, dem_none, ↓reduceIte, Nat.reduceEqDiff, Nat.reduceLT, decide_true, decide_false, List.filterMap_cons, List.filterMap_nil, Option.map_some, List.getElem?_cons_zero, List.getElem?_cons_succ, List.contains_cons, List.contains_nil, List.map_cons, List.map_nil, Bool.or_false, Bool.false_eq_true, dbin, dIntBin, row11, frz11, frzOf_def, frz_nil, Nat.zero_add, fp26_4, dp23, len23]
    | (refine drW_intro (by kernel_rfl) ?_)
    | (refine gw_intro (fun h => ?_) (fun h => ?_) <;> (try simp only [beq_true, beq_false, Bool.not_eq_eq_eq_not, Bool.not_true, Bool.not_false, Bool.not_not, decide_eq_true_eq, decide_eq_false_iff_not, ge_iff_le, gt_iff_lt] at h)))
                    refine hx _ _ ?_
                    repeat' (first
    | simp only [*, go_seq, go_retc, go_xblk, go_region, go_ops_nil, go_ops, okG_some, guardG, opG, inB, sval, stake, eats, eaters, get, cval, cval1, croom, put_slot, put_room, put_box, dem_none, endQ, endR, endV, rvars, rvar, room1, ↓reduceIte, Nat.reduceLT, decide_true, List.filterMap_cons, List.filterMap_nil, List.contains_cons, List.contains_nil, List.map_nil, Bool.or_false, Bool.false_eq_true, row11, frz_nil, pureB, leaf, leafN, List.take_nil, List.range_zero, and_self, frz11b]
    | (refine drW_intro (by kernel_rfl) ?_)
    | (refine gw_intro (fun h => ?_) (fun h => ?_) <;> (try simp only [beq_true, beq_false, Bool.not_eq_eq_eq_not, Bool.not_true, Bool.not_false, Bool.not_not, decide_eq_true_eq, decide_eq_false_iff_not, ge_iff_le, gt_iff_lt] at h)))
            · have n6 : ((a.length : Int) != a'.length) = true := by simp; omega
              rw [len_ne hne]
              clear eS HX hne
              refine callK (m := 74) (res := [4]) (rs := [.tmp 4]) rfl Tryd.func35 rfl rfl rfl rfl rfl ?_
              repeat' (first
    | simp only [*, go_seq, go_cond, go_retc, go_region, go_ops_nil, go_ops, okG_some, okB_some, gwD_bool, cwD_bool, gw_true, gw_false, guardG, opG, isPtr, inB, sval, stake, eats, eaters, get, cval, cval1, croom, St.taken, put_slot, put_room, put_box, put_ctr, dem_none, setBox_slot, setBox_room, setBox_box, entry_slot, entry_box, entry_ctr, endQ, endR, endV, rvars, rvar, room1, ↓reduceIte, Nat.reduceEqDiff, Nat.reduceLT, decide_true, List.filterMap_cons, List.filterMap_nil, Option.bind_some, Option.map_some, List.getElem?_cons_zero, List.getElem?_cons_succ, List.getD_cons_zero, List.getD_cons_succ, List.contains_cons, List.contains_nil, List.map_cons, List.map_nil, beq_self_eq_true, Bool.or_false, Bool.and_true, Bool.false_eq_true, dbin, dIntBin, okR, callG, row11, frz11, frzOf_def, frz_nil, beq_false, Bool.not_true, pureB, leaf, leafN, List.all_cons, List.all_nil, List.nil_append, List.take_nil, List.range_zero, List.length_nil, List.length_cons, dun, List.getElem?_nil, dcells, Nat.zero_add, Nat.reduceAdd, stepBox, Bool.and_false, Bool.false_and, and_self, Nat.add_zero, dStrBin, dp3, dp9, ty26, fp26_0, fp26_1, fp26_2, fp26_3, fp26_4, fp26_6, dp23, len23, frz11b]
    | (refine drW_intro (by kernel_rfl) ?_)
    | (refine gw_intro (fun h => ?_) (fun h => ?_) <;> (try simp only [beq_true, beq_false, Bool.not_eq_eq_eq_not, Bool.not_true, Bool.not_false, Bool.not_not, decide_eq_true_eq, decide_eq_false_iff_not, ge_iff_le, gt_iff_lt] at h)))
end Go.Av
/- Chapter 11: what is told of a place is what the document says. -/
set_option linter.unusedSimpArgs false
set_option linter.unusedVariables false
set_option linter.unusedSectionVars false
set_option maxRecDepth 100000
namespace Go.Av
open Go.Proofs
variable {chk : List D → Bool}
def zeroN : Nd := ⟨0, 0, [], [], [], [], []⟩
def inB' (ns : List Nd) (n : Int) : Bool := decide (0 ≤ n) && decide (n < ns.length)
def nodeI (ns : List Nd) (n : Int) : Nd := if inB' ns n = true then ns.getD n.toNat zeroN else zeroN
theorem node_is {x : Nd} (h : x.at_.length ≤ 1000000 ∧ x.st.length ≤ 1000000) : isNode x.d = true := by
  show ((x.at_.map At.d).all (fun e => (dcells e).length == 3) && (x.st.map D.str).all (fun e => (dcells e).length == 1) && decide ((x.at_.map At.d).length ≤ 1000000) && decide ((x.st.map D.str).length ≤ 1000000)) = true
  simp only [Bool.and_eq_true, List.all_eq_true, decide_eq_true_eq, List.length_map]
  refine ⟨⟨⟨?_, ?_⟩, h.1⟩, h.2⟩ <;> intro e he <;> obtain ⟨x, _, rfl⟩ := List.mem_map.1 he <;> rfl
theorem copy_L (x : Nd) (h : x.at_.length ≤ 1000000 ∧ x.st.length ≤ 1000000) : callL Tryd.prog (ext11b chk) 30 [x.d] [] = some (x.d, [], []) := by
  refine callL_ext ?_
  show (if isNode x.d = true then some (x.d, ([] : List Room), ([] : List Bx)) else none) = _
  rw [if_pos (node_is h)]
theorem node36_L (ns : List Nd) (n : Int) (hS : SmallD ns) : callL Tryd.prog (ext11b chk) 36 [treeN ns, .int .i64 n] [] = some (.tuple [(nodeI ns n).d, .bool (inB' ns n)], [.no, .no], []) := by
  obtain ⟨E, K, V, P, ht, _⟩ := treeN_form ns
  rw [ht]
  have lN := lenM ns Nd.d
  unfold nodeI inB'
  by_cases h0 : 0 ≤ n
  · by_cases h1 : n < ns.length
    · rw [decide_eq_true h0, decide_eq_true h1, Bool.and_self, if_pos rfl]
      obtain ⟨x, hx⟩ := some_at (show n.toNat < ns.length by omega)
      have ha := getD_map (f := Nd.d) hx
      have hc := copy_L (chk := chk) x ⟨(hS.2 x (List.mem_of_getElem? hx)).1, (hS.2 x (List.mem_of_getElem? hx)).2.1⟩
      have hg : ns.getD n.toNat zeroN = x := by simp [List.getD, hx]
      rw [hg]
      rw [ndat] at ha hc ⊢
      have hn : ¬ n < 0 := by omega
      have hn2 : ¬ (ns.length : Int) ≤ n := by omega
      clear hx hg hS ht
      generalize x.at_.map At.d = LA at *
      generalize x.st.map D.str = LS at *
      refine callK (m := 26) (res := [5]) (rs := [.cell 4 26, .tmp 5]) rfl Tryd.func36 rfl rfl rfl rfl rfl ?_
      repeat' (first
    | simp only [*, go_seq, go_cond, go_skip, go_retc, go_region, go_ops_nil, go_ops, okG_some, okB_some, gwD_bool, cwD_bool, gw_true, gw_false, guardG, opG, isPtr, inB, sval, stake, eats, eaters, get, cval, cval1, croom, St.taken, put_slot, put_room, put_box, put_none, dem_none, setBox_slot, setBox_room, setBox_box, entry_slot, entry_room, entry_box, entry_ctr, endQ, endR, endV, rvars, rvar, room1, ↓reduceIte, Nat.reduceEqDiff, Nat.reduceLT, Nat.reduceLeDiff, reduceCtorEq, decide_true, decide_false, List.filterMap_cons, List.filterMap_nil, Option.bind_some, Option.map_some, List.getElem?_cons_zero, List.getElem?_cons_succ, List.getD_cons_zero, List.getD_cons_succ, List.contains_cons, List.contains_nil, List.map_cons, List.map_nil, beq_self_eq_true, Bool.or_false, Bool.and_true, Bool.false_eq_true, dbin, dIntBin, okR, callG, row11, frz11, frzOf_def, frz_nil, pureB, leaf, leafN, List.all_cons, List.all_nil, List.nil_append, List.append_nil, List.take_nil, List.range_zero, List.length_nil, List.length_cons, List.getElem?_nil, List.take_zero, List.drop_zero, List.drop_succ_cons, dcells, Nat.zero_add, Nat.reduceAdd, stepBox, and_self, Nat.add_zero, ge_iff_le, dStrBin, dNilEq, isLit, fa59_0, ty26, dp26, zr26, dp22, ia22, len22]
    | (refine drW_intro (by kernel_rfl) ?_)
    | (refine gw_intro (fun h => ?_) (fun h => ?_) <;> (try simp only [beq_true, beq_false, Bool.not_eq_eq_eq_not, Bool.not_true, Bool.not_false, Bool.not_not, decide_eq_true_eq, decide_eq_false_iff_not, ge_iff_le, gt_iff_lt] at h)))
    · rw [decide_eq_true h0, decide_eq_false h1, Bool.true_and, if_neg (by decide)]
      have hn : ¬ n < 0 := by omega
      have hn2 : (ns.length : Int) ≤ n := by omega
      have hz : zeroN.d = .agg [.int .i64 0, .int .i64 0, .str [], .str [], .list [], .list [], .str []] := rfl
      rw [hz]
      clear hS ht
      refine callK (m := 26) (res := [5]) (rs := [.cell 4 26, .tmp 5]) rfl Tryd.func36 rfl rfl rfl rfl rfl ?_
      repeat' (first
    | simp only [*, go_seq, go_cond, go_retc, go_region, go_ops_nil, go_ops, okG_some, okB_some, gwD_bool, cwD_bool, gw_true, guardG, opG, isPtr, inB, sval, stake, eats, eaters, get, cval, cval1, croom, St.taken, put_slot, put_room, put_box, put_none, dem_none, setBox_slot, setBox_room, setBox_box, entry_slot, entry_room, entry_box, entry_ctr, endQ, endR, endV, rvars, rvar, room1, ↓reduceIte, Nat.reduceEqDiff, Nat.reduceLT, Nat.reduceLeDiff, reduceCtorEq, decide_true, decide_false, List.filterMap_cons, List.filterMap_nil, Option.bind_some, Option.map_some, List.getElem?_cons_zero, List.getElem?_cons_succ, List.getD_cons_zero, List.getD_cons_succ, List.contains_cons, List.contains_nil, List.map_cons, List.map_nil, beq_self_eq_true, Bool.or_false, Bool.and_true, Bool.false_eq_true, dbin, dIntBin, okR, callG, row11, frz11, frzOf_def, frz_nil, pureB, leaf, leafN, List.all_cons, List.all_nil, List.nil_append, List.append_nil, List.take_nil, List.range_zero, List.length_nil, List.length_cons, List.getElem?_nil, List.take_zero, List.drop_zero, List.drop_succ_cons, dcells, Nat.zero_add, Nat.reduceAdd, stepBox, and_self, Nat.add_zero, ge_iff_le, dStrBin, bd26, dNilEq, isLit, fa59_0, ty26, dp26, zr26, dp22, len22]
    | (refine drW_intro (by kernel_rfl) ?_)
    | (refine gw_intro (fun h => ?_) (fun h => ?_) <;> (try simp only [beq_true, beq_false, Bool.not_eq_eq_eq_not, Bool.not_true, Bool.not_false, Bool.not_not, decide_eq_true_eq, decide_eq_false_iff_not, ge_iff_le, gt_iff_lt] at h)))
  · rw [decide_eq_false h0, Bool.false_and, if_neg (by decide)]
    have hn : n < 0 := by omega
    have hz : zeroN.d = .agg [.int .i64 0, .int .i64 0, .str [], .str [], .list [], .list [], .str []] := rfl
    rw [hz]
    clear hS ht
    refine callK (m := 26) (res := [5]) (rs := [.cell 4 26, .tmp 5]) rfl Tryd.func36 rfl rfl rfl rfl rfl ?_
    repeat' (first
    | simp only [*, go_seq, go_cond, go_retc, go_region, go_ops_nil, go_ops, okG_some, okB_some, gwD_bool, cwD_bool, gw_true, gw_false, guardG, opG, isPtr, inB, sval, stake, eats, eaters, get, cval, cval1, croom, St.taken, put_slot, put_room, put_box, put_none, dem_none, setBox_slot, setBox_room, setBox_box, entry_slot, entry_room, entry_box, entry_ctr, endQ, endR, endV, rvars, rvar, room1, ↓reduceIte, Nat.reduceEqDiff, Nat.reduceLT, Nat.reduceLeDiff, decide_true, List.filterMap_cons, List.filterMap_nil, Option.bind_some, Option.map_some, List.getElem?_cons_zero, List.getElem?_cons_succ, List.getD_cons_zero, List.getD_cons_succ, List.contains_cons, List.contains_nil, List.map_cons, List.map_nil, Bool.or_false, Bool.and_true, Bool.false_eq_true, dbin, dIntBin, okR, callG, row11, frz11, frzOf_def, frz_nil, beq_false, Bool.not_true, pureB, leaf, leafN, List.all_cons, List.all_nil, List.nil_append, List.append_nil, List.take_nil, List.range_zero, List.length_nil, List.length_cons, List.getElem?_nil, List.take_zero, List.drop_zero, List.drop_succ_cons, dcells, Nat.zero_add, Nat.reduceAdd, stepBox, and_self, dStrBin, bd26, dNilEq, isLit, ty26, dp26, zr26]
    | (refine drW_intro (by kernel_rfl) ?_)
    | (refine gw_intro (fun h => ?_) (fun h => ?_) <;> (try simp only [beq_true, beq_false, Bool.not_eq_eq_eq_not, Bool.not_true, Bool.not_false, Bool.not_not, decide_eq_true_eq, decide_eq_false_iff_not, ge_iff_le, gt_iff_lt] at h)))
theorem idxN_find {α : Type} (f : α → Bool) : ∀ (l : List α) (k : Nat), (l.find? f = none ∧ idxN f k l = -1) ∨ ∃ (j : Nat) (a : α), l.find? f = some a ∧ l[j]? = some a ∧ idxN f k l = ((k + j : Nat) : Int)
  | [], k => .inl ⟨rfl, rfl⟩
  | a :: r, k => by
    rw [idxN, List.find?_cons]
    cases h : f a with
    | true => exact .inr ⟨0, a, rfl, rfl, by simp⟩
    | false =>
      rcases idxN_find f r (k + 1) with ⟨h1, h2⟩ | ⟨j, b, h1, h2, h3⟩
      · exact .inl ⟨h1, by simpa using h2⟩
      · refine .inr ⟨j + 1, b, h1, h2, ?_⟩
        rw [if_neg (by decide), h3]
        omega
def atsAt (ns : List Nd) (i : Nat) : List At := match ns[i]? with | some n => n.at_ | none => []
def stsAt (ns : List Nd) (i : Nat) : List (List UInt8) := match ns[i]? with | some n => n.st | none => []
def foundF : Option At → List UInt8 × Bool
  | some a => (a.vl, true)
  | none => ([], false)
def valI (ns : List Nd) (n : Int) (sp nm : List UInt8) : List UInt8 × Bool := if elB ns n = true then foundF ((atsAt ns n.toNat).find? (sameN sp nm)) else ([], false)
def staI (ns : List Nd) (n : Int) (nm : List UInt8) : Bool := elB ns n && (stsAt ns n.toNat).contains nm
theorem val38_L (ns : List Nd) (n : Int) (sp nm : List UInt8) (hS : SmallD ns) : callL Tryd.prog (ext11b chk) 38 [treeN ns, .int .i64 n, .str sp, .str nm] [] = some (.tuple [.str (valI ns n sp nm).1, .bool (valI ns n sp nm).2], [.no, .no], []) := by
  have hE := elem_L (chk := chk) ns n
  obtain ⟨E, K, V, P, ht, _⟩ := treeN_form ns
  rw [ht] at hE ⊢
  clear ht
  have lN := lenM ns Nd.d
  unfold valI
  cases he : elB ns n with
  | false =>
    rw [he] at hE
    rw [if_neg (by simp)]
    clear he hS
    refine callK (m := 40) (res := [8, 9]) (rs := [.tmp 8, .tmp 9]) rfl Tryd.func38 rfl rfl rfl rfl rfl ?_
    repeat' (first
    | simp only [*, go_seq, go_cond, go_retc, go_region, go_ops_nil, go_ops, okG_some, cwD_bool, gw_true, guardG, opG, isPtr, inB, sval, stake, eats, eaters, get, cval, cval1, croom, St.taken, put_slot, put_room, put_box, dem_none, entry_slot, entry_box, endQ, endR, endV, rvars, rvar, room1, ↓reduceIte, Nat.reduceEqDiff, Nat.reduceLT, reduceCtorEq, decide_true, List.filterMap_cons, List.filterMap_nil, Option.map_some, List.getD_cons_zero, List.getD_cons_succ, List.contains_cons, List.contains_nil, List.map_cons, List.map_nil, Bool.or_false, Bool.and_true, Bool.false_eq_true, okR, callG, row11, frz11, frzOf_def, frz_nil, Bool.not_false, pureB, leaf, leafN, List.all_cons, List.all_nil, List.nil_append, List.append_nil, List.take_nil, List.range_zero, List.length_nil, dun, List.getElem?_nil, and_self]
    | (refine drW_intro (by kernel_rfl) ?_)
    | (refine gw_intro (fun h => ?_) (fun h => ?_) <;> (try simp only [beq_true, beq_false, Bool.not_eq_eq_eq_not, Bool.not_true, Bool.not_false, Bool.not_not, decide_eq_true_eq, decide_eq_false_iff_not, ge_iff_le, gt_iff_lt] at h)))
  | true =>
    rw [he] at hE
    obtain ⟨i, rfl, hi, hk⟩ := elB_at (ns := ns) (n := n) he
    obtain ⟨x, hx⟩ := some_at hi
    have ha := getD_map (f := Nd.d) hx
    rw [ndat] at ha
    have g9 : (i : Int) < ns.length := by omega
    have tn : (i : Int).toNat = i := by omega
    have hat : atsAt ns i = x.at_ := by unfold atsAt; rw [hx]
    have hst : stsAt ns i = x.st := by unfold stsAt; rw [hx]
    have hsx := hS.2 x (List.mem_of_getElem? hx)
    rw [if_pos rfl, tn, hat]
    have hi1 := attr_L (chk := chk) x.at_ sp nm hsx.1
    have lA := lenM x.at_ At.d
    rcases idxN_find (sameN sp nm) x.at_ 0 with ⟨f1, f2⟩ | ⟨j, a, f1, f2, f3⟩
    · rw [f1]
      rw [f2] at hi1
      simp only [foundF]
      clear hS hsx hx hat hst hk f1 f2 hi
      generalize x.at_.map At.d = LA at *
      generalize x.st.map D.str = LS at *
      refine callK (m := 40) (res := [8, 9]) (rs := [.tmp 8, .tmp 9]) rfl Tryd.func38 rfl rfl rfl rfl rfl ?_
      repeat' (first
    | simp only [*, go_seq, go_cond, go_skip, go_retc, go_region, go_ops_nil, go_ops, okG_some, cwD_bool, gw_true, gw_false, guardG, opG, isPtr, inB, sval, stake, eats, eaters, get, cval, cval1, croom, St.taken, put_slot, put_room, put_box, dem_none, dem_box, entry_slot, entry_box, endQ, endR, endV, rvars, rvar, room1, ↓reduceIte, Nat.reduceEqDiff, Nat.reduceLT, reduceCtorEq, decide_true, List.filterMap_cons, List.filterMap_nil, Option.map_some, List.getElem?_cons_zero, List.getElem?_cons_succ, List.getD_cons_zero, List.getD_cons_succ, List.contains_cons, List.contains_nil, List.map_cons, List.map_nil, Bool.or_false, Bool.and_true, Nat.reduceBEq, Bool.false_eq_true, dbin, dIntBin, okR, callG, row11, frz11, frzOf_def, frz_nil, Bool.not_true, pureB, leaf, leafN, List.all_cons, List.all_nil, List.nil_append, List.append_nil, List.take_nil, List.range_zero, List.length_nil, List.length_cons, dun, List.getElem?_nil, dcells, Nat.zero_add, Nat.reduceAdd, Int.natCast_nonneg, and_self, Nat.add_zero, Int.reduceLT, fa59_0, fa26_4, dp22, ia22, dp23]
    | (refine drW_intro (by kernel_rfl) ?_)
    | (refine gw_intro (fun h => ?_) (fun h => ?_) <;> (try simp only [beq_true, beq_false, Bool.not_eq_eq_eq_not, Bool.not_true, Bool.not_false, Bool.not_not, decide_eq_true_eq, decide_eq_false_iff_not, ge_iff_le, gt_iff_lt] at h)))
    · rw [f1]
      rw [f3, Nat.zero_add] at hi1
      have hg := getD_map (f := At.d) f2
      have hj : (j : Int) < x.at_.length := by have := (List.getElem?_eq_some_iff.1 f2).1; omega
      have hj0 : ¬ (j : Int) < 0 := by omega
      simp only [foundF]
      obtain ⟨a1, a2, a3⟩ := a
      have hg2 : (x.at_.map At.d).getD j .bad = .agg [.str a1, .str a2, .str a3] := hg
      clear hS hsx hx hat hst hk f1 f2 f3 hi hg
      generalize x.at_.map At.d = LA at *
      generalize x.st.map D.str = LS at *
      refine callK (m := 40) (res := [8, 9]) (rs := [.tmp 8, .tmp 9]) rfl Tryd.func38 rfl rfl rfl rfl rfl ?_
      repeat' (first
    | simp only [*, go_seq, go_cond, go_skip, go_retc, go_region, go_ops_nil, go_ops, okG_some, cwD_bool, gw_false, guardG, opG, isPtr, inB, sval, stake, eats, eaters, get, cval, cval1, croom, St.taken, put_slot, put_room, put_box, dem_none, dem_slot, dem_box, entry_slot, entry_box, endQ, endR, endV, rvars, rvar, room1, ↓reduceIte, Nat.reduceEqDiff, Nat.reduceLT, reduceCtorEq, decide_true, decide_false, List.filterMap_cons, List.filterMap_nil, Option.map_some, List.getElem?_cons_zero, List.getElem?_cons_succ, List.getD_cons_zero, List.getD_cons_succ, List.contains_cons, List.contains_nil, List.map_cons, List.map_nil, beq_self_eq_true, Bool.or_false, Bool.and_true, Nat.reduceBEq, Bool.false_eq_true, dbin, dIntBin, okR, callG, row11, frz11, frzOf_def, frz_nil, Bool.not_true, pureB, leaf, leafN, List.all_cons, List.all_nil, List.nil_append, List.append_nil, List.take_nil, List.range_zero, List.length_nil, List.length_cons, dun, List.getElem?_nil, dcells, Nat.zero_add, Nat.reduceAdd, Int.natCast_nonneg, Int.toNat_natCast, and_self, Nat.add_zero, fa59_0, dp9, fa26_4, fa54_2, dp22, ia22, dp23, ia23]
    | (refine drW_intro (by kernel_rfl) ?_)
    | (refine gw_intro (fun h => ?_) (fun h => ?_) <;> (try simp only [beq_true, beq_false, Bool.not_eq_eq_eq_not, Bool.not_true, Bool.not_false, Bool.not_not, decide_eq_true_eq, decide_eq_false_iff_not, ge_iff_le, gt_iff_lt] at h)))
theorem sta40_L (ns : List Nd) (n : Int) (nm : List UInt8) (hS : SmallD ns) : callL Tryd.prog (ext11b chk) 40 [treeN ns, .int .i64 n, .str nm] [] = some (.bool (staI ns n nm), [.no], []) := by
  have hE := elem_L (chk := chk) ns n
  obtain ⟨E, K, V, P, ht, _⟩ := treeN_form ns
  rw [ht] at hE ⊢
  clear ht
  have lN := lenM ns Nd.d
  unfold staI
  cases he : elB ns n with
  | false =>
    rw [he] at hE
    rw [Bool.false_and]
    clear he hS
    refine callK (m := 22) (res := [6]) (rs := [.tmp 6]) rfl Tryd.func40 rfl rfl rfl rfl rfl ?_
    repeat' (first
    | simp only [*, go_seq, go_retc, go_region, go_ops_nil, go_ops, okG_some, gwD_bool, gw_false, guardG, opG, isPtr, inB, sval, stake, eats, eaters, get, cval, cval1, croom, St.taken, put_slot, put_room, put_box, dem_none, dem_box, setBox_slot, setBox_room, entry_slot, entry_room, entry_box, endQ, endR, endV, rvars, rvar, room1, ↓reduceIte, Nat.reduceEqDiff, Nat.reduceLT, reduceCtorEq, decide_true, List.filterMap_cons, List.filterMap_nil, Option.bind_some, List.getElem?_cons_zero, List.getElem?_cons_succ, List.getD_cons_zero, List.getD_cons_succ, List.contains_cons, List.contains_nil, List.map_cons, List.map_nil, beq_self_eq_true, Bool.or_false, Bool.and_true, Nat.reduceBEq, Bool.false_eq_true, okR, callG, row11, frz11, frzOf_def, frz_nil, beq_true, pureB, leaf, leafN, List.all_cons, List.all_nil, List.nil_append, List.append_nil, List.take_nil, List.range_zero, List.length_nil, List.getElem?_nil, dcells, and_self, frz11b]
    | (refine drW_intro (by kernel_rfl) ?_)
    | (refine gw_intro (fun h => ?_) (fun h => ?_) <;> (try simp only [beq_true, beq_false, Bool.not_eq_eq_eq_not, Bool.not_true, Bool.not_false, Bool.not_not, decide_eq_true_eq, decide_eq_false_iff_not, ge_iff_le, gt_iff_lt] at h)))
  | true =>
    rw [he] at hE
    obtain ⟨i, rfl, hi, hk⟩ := elB_at (ns := ns) (n := n) he
    obtain ⟨x, hx⟩ := some_at hi
    have ha := getD_map (f := Nd.d) hx
    rw [ndat] at ha
    have g9 : (i : Int) < ns.length := by omega
    have tn : (i : Int).toNat = i := by omega
    have hat : atsAt ns i = x.at_ := by unfold atsAt; rw [hx]
    have hst : stsAt ns i = x.st := by unfold stsAt; rw [hx]
    have hsx := hS.2 x (List.mem_of_getElem? hx)
    rw [Bool.true_and, tn, hst]
    have hc := contains_L (chk := chk) x.st nm hsx.2.1
    generalize x.st.contains nm = R at *
    clear hS hsx hx hat hst hk hi
    generalize x.at_.map At.d = LA at *
    generalize x.st.map D.str = LS at *
    refine callK (m := 22) (res := [6]) (rs := [.tmp 6]) rfl Tryd.func40 rfl rfl rfl rfl rfl ?_
    repeat' (first
    | simp only [*, go_seq, go_retc, go_region, go_ops_nil, go_ops, okG_some, gwD_bool, gw_true, guardG, opG, isPtr, inB, sval, stake, eats, eaters, get, cval, cval1, croom, St.taken, put_slot, put_room, put_box, dem_none, dem_box, setBox_slot, setBox_room, entry_slot, entry_room, entry_box, endQ, endR, endV, rvars, rvar, room1, ↓reduceIte, Nat.reduceEqDiff, Nat.reduceLT, reduceCtorEq, decide_true, List.filterMap_cons, List.filterMap_nil, Option.bind_some, Option.map_some, List.getElem?_cons_zero, List.getElem?_cons_succ, List.getD_cons_zero, List.getD_cons_succ, List.contains_cons, List.contains_nil, List.map_cons, List.map_nil, beq_self_eq_true, Bool.or_false, Bool.and_true, Nat.reduceBEq, Bool.false_eq_true, okR, callG, row11, frz11, frzOf_def, frz_nil, pureB, leaf, leafN, List.all_cons, List.all_nil, List.nil_append, List.append_nil, List.take_nil, List.range_zero, List.length_nil, List.length_cons, List.getElem?_nil, dcells, Nat.zero_add, Nat.reduceAdd, Int.natCast_nonneg, and_self, Nat.add_zero, fa59_0, fa26_5, dp22, ia22, dp24, frz11b]
    | (refine drW_intro (by kernel_rfl) ?_)
    | (refine gw_intro (fun h => ?_) (fun h => ?_) <;> (try simp only [beq_true, beq_false, Bool.not_eq_eq_eq_not, Bool.not_true, Bool.not_false, Bool.not_not, decide_eq_true_eq, decide_eq_false_iff_not, ge_iff_le, gt_iff_lt] at h)))
theorem rsta41_L (ns : List Nd) (n : Int) (nm : List UInt8) (hS : SmallD ns) : callL Tryd.prog (ext11b chk) 41 [.list (ns.map Nd.d), .int .i64 n, .str nm] [] = some (.bool (staI ns n nm), [.no], []) := by
  have hE := relem_L (chk := chk) ns n
  have lN := lenM ns Nd.d
  unfold staI
  cases he : elB ns n with
  | false =>
    rw [he] at hE
    rw [Bool.false_and]
    clear he hS
    refine callK (m := 19) (res := [6]) (rs := [.tmp 6]) rfl Tryd.func41 rfl rfl rfl rfl rfl ?_
    repeat' (first
    | simp only [*, go_seq, go_retc, go_region, go_ops_nil, go_ops, okG_some, gwD_bool, gw_false, guardG, opG, isPtr, inB, sval, stake, eats, eaters, get, cval, cval1, croom, St.taken, put_slot, put_room, put_box, dem_none, dem_box, setBox_slot, setBox_room, entry_slot, entry_room, entry_box, endQ, endR, endV, rvars, rvar, room1, ↓reduceIte, Nat.reduceEqDiff, Nat.reduceLT, reduceCtorEq, decide_true, List.filterMap_cons, List.filterMap_nil, Option.bind_some, List.getElem?_cons_zero, List.getElem?_cons_succ, List.getD_cons_zero, List.getD_cons_succ, List.contains_cons, List.contains_nil, List.map_cons, List.map_nil, beq_self_eq_true, Bool.or_false, Bool.and_true, Nat.reduceBEq, Bool.false_eq_true, okR, callG, row11, frz11, frzOf_def, frz_nil, beq_true, pureB, leaf, leafN, List.all_cons, List.all_nil, List.nil_append, List.append_nil, List.take_nil, List.range_zero, List.length_nil, List.getElem?_nil, dcells, and_self, frz11b]
    | (refine drW_intro (by kernel_rfl) ?_)
    | (refine gw_intro (fun h => ?_) (fun h => ?_) <;> (try simp only [beq_true, beq_false, Bool.not_eq_eq_eq_not, Bool.not_true, Bool.not_false, Bool.not_not, decide_eq_true_eq, decide_eq_false_iff_not, ge_iff_le, gt_iff_lt] at h)))
  | true =>
    rw [he] at hE
    obtain ⟨i, rfl, hi, hk⟩ := elB_at (ns := ns) (n := n) he
    obtain ⟨x, hx⟩ := some_at hi
    have ha := getD_map (f := Nd.d) hx
    rw [ndat] at ha
    have g9 : (i : Int) < ns.length := by omega
    have tn : (i : Int).toNat = i := by omega
    have hat : atsAt ns i = x.at_ := by unfold atsAt; rw [hx]
    have hst : stsAt ns i = x.st := by unfold stsAt; rw [hx]
    have hsx := hS.2 x (List.mem_of_getElem? hx)
    rw [Bool.true_and, tn, hst]
    have hc := has_L (chk := chk) x.st nm (Nat.le_trans hsx.2.1 (by decide))
    generalize x.st.contains nm = R at *
    clear hS hsx hx hat hst hk hi
    generalize x.at_.map At.d = LA at *
    generalize x.st.map D.str = LS at *
    refine callK (m := 19) (res := [6]) (rs := [.tmp 6]) rfl Tryd.func41 rfl rfl rfl rfl rfl ?_
    repeat' (first
    | simp only [*, go_seq, go_retc, go_region, go_ops_nil, go_ops, okG_some, gwD_bool, gw_true, guardG, opG, isPtr, inB, sval, stake, eats, eaters, get, cval, cval1, croom, St.taken, put_slot, put_room, put_box, dem_none, dem_box, setBox_slot, setBox_room, entry_slot, entry_room, entry_box, endQ, endR, endV, rvars, rvar, room1, ↓reduceIte, Nat.reduceEqDiff, Nat.reduceLT, reduceCtorEq, decide_true, List.filterMap_cons, List.filterMap_nil, Option.bind_some, Option.map_some, List.getElem?_cons_zero, List.getElem?_cons_succ, List.getD_cons_zero, List.getD_cons_succ, List.contains_cons, List.contains_nil, List.map_cons, List.map_nil, beq_self_eq_true, Bool.or_false, Bool.and_true, Nat.reduceBEq, Bool.false_eq_true, okR, callG, row11, frz11, frzOf_def, frz_nil, pureB, leaf, leafN, List.all_cons, List.all_nil, List.nil_append, List.append_nil, List.take_nil, List.range_zero, List.length_nil, List.length_cons, List.getElem?_nil, dcells, Nat.zero_add, Nat.reduceAdd, Int.natCast_nonneg, and_self, fa26_5, ia22, dp24, frz11b]
    | (refine drW_intro (by kernel_rfl) ?_)
    | (refine gw_intro (fun h => ?_) (fun h => ?_) <;> (try simp only [beq_true, beq_false, Bool.not_eq_eq_eq_not, Bool.not_true, Bool.not_false, Bool.not_not, decide_eq_true_eq, decide_eq_false_iff_not, ge_iff_le, gt_iff_lt] at h)))
theorem find_at {xs : List At} {i : Nat} {x : At} (f : At → Bool) (hx : xs[i]? = some x) : (xs.drop i).find? f = if f x = true then some x else (xs.drop (i + 1)).find? f := by
  have h1 : i < xs.length := (List.getElem?_eq_some_iff.1 hx).1
  have e1 : xs[i] = x := (List.getElem?_eq_some_iff.1 hx).2
  rw [List.drop_eq_getElem_cons h1, e1, List.find?_cons]
  cases f x <;> rfl
theorem find_end {xs : List At} {i : Nat} (f : At → Bool) (h : xs.length ≤ i) : (xs.drop i).find? f = none := by
  rw [List.drop_eq_nil_of_le h]
  rfl
set_option maxHeartbeats 8000000 in
theorem rval39_L (ns : List Nd) (n : Int) (sp nm : List UInt8) (hS : SmallD ns) : callL Tryd.prog (ext11b chk) 39 [.list (ns.map Nd.d), .int .i64 n, .str sp, .str nm] [] = some (.tuple [.str (valI ns n sp nm).1, .bool (valI ns n sp nm).2], [.no, .no], []) := by
  have hE := relem_L (chk := chk) ns n
  have lN := lenM ns Nd.d
  unfold valI
  cases he : elB ns n with
  | false =>
    rw [he] at hE
    rw [if_neg (by simp)]
    clear he hS
    refine callK (m := 46) (res := [8, 9]) (rs := [.tmp 8, .tmp 9]) rfl Tryd.func39 rfl rfl rfl rfl rfl ?_
    repeat' (first
    | simp only [*, go_seq, go_cond, go_retc, go_region, go_ops_nil, go_ops, okG_some, cwD_bool, gw_true, guardG, opG, isPtr, inB, sval, stake, eats, eaters, get, cval, cval1, croom, St.taken, put_slot, put_room, put_box, dem_none, entry_slot, entry_box, endQ, endR, endV, rvars, rvar, room1, ↓reduceIte, Nat.reduceEqDiff, Nat.reduceLT, reduceCtorEq, decide_true, List.filterMap_cons, List.filterMap_nil, Option.map_some, List.getD_cons_zero, List.getD_cons_succ, List.contains_cons, List.contains_nil, List.map_cons, List.map_nil, Bool.or_false, Bool.and_true, Bool.false_eq_true, okR, callG, row11, frz11, frzOf_def, frz_nil, Bool.not_false, pureB, leaf, leafN, List.all_cons, List.all_nil, List.nil_append, List.append_nil, List.take_nil, List.range_zero, List.length_nil, dun, List.getElem?_nil, and_self]
    | (refine drW_intro (by kernel_rfl) ?_)
    | (refine gw_intro (fun h => ?_) (fun h => ?_) <;> (try simp only [beq_true, beq_false, Bool.not_eq_eq_eq_not, Bool.not_true, Bool.not_false, Bool.not_not, decide_eq_true_eq, decide_eq_false_iff_not, ge_iff_le, gt_iff_lt] at h)))
  | true =>
    rw [he] at hE
    obtain ⟨i, rfl, hi, hk⟩ := elB_at (ns := ns) (n := n) he
    obtain ⟨x, hx⟩ := some_at hi
    have ha := getD_map (f := Nd.d) hx
    rw [ndat] at ha
    have g9 : (i : Int) < ns.length := by omega
    have tn : (i : Int).toNat = i := by omega
    have hat : atsAt ns i = x.at_ := by unfold atsAt; rw [hx]
    have hst : stsAt ns i = x.st := by unfold stsAt; rw [hx]
    have hsx := hS.2 x (List.mem_of_getElem? hx)
    rw [if_pos rfl, tn, hat]
    have HL := Hd.mk hsx.1
    have lA := lenM x.at_ At.d
    obtain ⟨R, hR⟩ : ∃ R, Hd (R = (x.at_.drop 0).find? (sameN sp nm)) := ⟨_, rfl⟩
    rw [show x.at_.find? (sameN sp nm) = R from (show R = (x.at_.drop 0).find? (sameN sp nm) from hR).symm]
    clear hS hsx hx hat hst hk hi
    generalize x.at_ = l at *
    generalize x.st.map D.str = LS at *
    refine callK (m := 46) (res := [8, 9]) (rs := [.tmp 8, .tmp 9]) rfl Tryd.func39 rfl rfl rfl rfl rfl ?_
    repeat' (first
    | simp only [*, go_seq, go_cond, go_block, go_skip, go_loop, go_region, go_ops_nil, go_ops, okG_some, cwD_bool, gw_false, guardG, opG, isPtr, inB, sval, stake, eats, eaters, get, cval, cval1, croom, St.taken, put_slot, dem_none, entry_slot, ↓reduceIte, Nat.reduceEqDiff, Nat.reduceLT, reduceCtorEq, decide_true, List.filterMap_cons, List.filterMap_nil, Option.map_some, List.getD_cons_zero, List.getD_cons_succ, List.contains_cons, List.contains_nil, List.map_cons, List.map_nil, Bool.or_false, Bool.and_true, Bool.false_eq_true, okR, callG, row11, frz11, frzOf_def, frz_nil, Bool.not_true, pureB, leaf, leafN, List.all_cons, List.all_nil, List.nil_append, List.append_nil, List.length_nil, dun, frz11b]
    | (refine drW_intro (by kernel_rfl) ?_)
    | (refine gw_intro (fun h => ?_) (fun h => ?_) <;> (try simp only [beq_true, beq_false, Bool.not_eq_eq_eq_not, Bool.not_true, Bool.not_false, Bool.not_not, decide_eq_true_eq, decide_eq_false_iff_not, ge_iff_le, gt_iff_lt] at h)))
    clear hE
    refine loopH (fun st => ∃ m : Nat, m ≤ l.length ∧ st.slot 10 = .int .i64 m ∧ st.slot 0 = .list (ns.map Nd.d) ∧ st.slot 1 = .int .i64 i ∧ st.slot 2 = .str sp ∧ st.slot 3 = .str nm ∧ st.slot 8 = .str [] ∧ st.room 8 = [] ∧ st.slot 9 = .bool false ∧ st.room 9 = [] ∧ Hd (R = (l.drop m).find? (sameN sp nm))) (fun st => l.length - slotI st 10) ?_ ?_
    · refine ⟨0, Nat.zero_le _, ?_, ?_, ?_, ?_, ?_, ?_, ?_, ?_, ?_, hR⟩
      all_goals simp only [*, put_slot, put_room, entry_slot, ↓reduceIte, Nat.reduceEqDiff, reduceCtorEq, List.getD_cons_zero, List.getD_cons_succ]
      all_goals rfl
    · rintro st K ⟨m, hm, g10, g0, g1, g2, g3, g8, r8, g9', r9, hO⟩ hn hx hr
      have hl : l.length ≤ 1000000 := HL
      have hO' : R = (l.drop m).find? (sameN sp nm) := hO
      clear hO
      by_cases h : m < l.length
      · have gm : (m : Int) < l.length := by omega
        have hw := wrapS m (by omega)
        obtain ⟨y, hy1⟩ := some_at h
        rw [find_at _ hy1] at hO'
        have hb := getD_map (f := At.d) hy1
        obtain ⟨a1, a2, a3⟩ := y
        have hb2 : (l.map At.d).getD m .bad = .agg [.str a1, .str a2, .str a3] := hb
        clear hb hy1 hl
        cases c1 : (a1 == sp) with
        | false =>
          rw [show sameN sp nm ⟨a1, a2, a3⟩ = false by show (a1 == sp && a2 == nm) = false; rw [c1]; rfl, if_neg (by decide)] at hO'
          have HO : Hd (R = (l.drop (m + 1)).find? (sameN sp nm)) := hO'
          clear hO' hx hr
          repeat' (first
    | simp only [*, go_nil, go_seq, go_cond, go_block, go_blk, go_skip, go_region, go_ops_nil, go_ops, okG_some, okB_some, gwD_bool, cwD_bool, gw_true, gw_false, guardG, opG, isPtr, inB, sval, stake, eats, eaters, get, cval, cval1, croom, St.taken, put_slot, put_room, put_box, put_ctr, put_none, dem_none, setBox_slot, setBox_room, setBox_box, ↓reduceIte, Nat.reduceEqDiff, Nat.reduceLT, Nat.reduceLeDiff, reduceCtorEq, decide_true, List.filterMap_cons, List.filterMap_nil, Option.bind_some, Option.map_some, List.getElem?_cons_zero, List.getElem?_cons_succ, List.contains_cons, List.contains_nil, List.map_cons, List.map_nil, Bool.or_false, Bool.and_true, Nat.reduceBEq, Bool.false_eq_true, dbin, dIntBin, row11, frz11, frzOf_def, frz_nil, beq_true, pureB, leaf, leafN, List.all_cons, List.all_nil, List.nil_append, List.append_nil, List.length_nil, List.length_cons, List.take_zero, List.drop_zero, List.drop_succ_cons, dcells, Nat.zero_add, Nat.reduceAdd, stepBox, Int.natCast_nonneg, Int.toNat_natCast, and_self, Nat.add_zero, dStrBin, dNilEq, isLit, dp9, fa26_4, ty54, dp54, fp54_0, zr54, ia22, dp23, ia23, len23]
    | (refine drW_intro (by kernel_rfl) ?_)
    | (refine gw_intro (fun h => ?_) (fun h => ?_) <;> (try simp only [beq_true, beq_false, Bool.not_eq_eq_eq_not, Bool.not_true, Bool.not_false, Bool.not_not, decide_eq_true_eq, decide_eq_false_iff_not, ge_iff_le, gt_iff_lt] at h)))
          refine hn _ ⟨m + 1, h, ?_, ?_, ?_, ?_, ?_, ?_, ?_, ?_, ?_, HO⟩ ?_
          · simp only [*, put_slot, ↓reduceIte]
          · simp only [*, put_slot, dem_slot, setBox_slot, ↓reduceIte, reduceCtorEq]
          · simp only [*, put_slot, dem_slot, setBox_slot, ↓reduceIte, Nat.reduceEqDiff]
          · simp only [*, put_slot, dem_slot, setBox_slot, ↓reduceIte, Nat.reduceEqDiff]
          · simp only [*, put_slot, dem_slot, setBox_slot, ↓reduceIte, Nat.reduceEqDiff]
          · simp only [*, put_slot, dem_slot, setBox_slot, ↓reduceIte, Nat.reduceEqDiff]
          · simp only [*, put_room, dem_room, setBox_room, ↓reduceIte, Nat.reduceEqDiff]
          · simp only [*, put_slot, dem_slot, setBox_slot, ↓reduceIte, Nat.reduceEqDiff]
          · simp only [*, put_room, dem_room, setBox_room, ↓reduceIte, Nat.reduceEqDiff]
          · simp only [slotI, *, put_slot, ↓reduceIte, Int.toNat_natCast]
            omega
        | true =>
          cases c2 : (a2 == nm) with
          | false =>
            rw [show sameN sp nm ⟨a1, a2, a3⟩ = false by show (a1 == sp && a2 == nm) = false; rw [c1, c2]; rfl, if_neg (by decide)] at hO'
            have HO : Hd (R = (l.drop (m + 1)).find? (sameN sp nm)) := hO'
            clear hO' hx hr
            repeat' (first
    | simp only [*, go_nil, go_seq, go_cond, go_block, go_blk, go_skip, go_region, go_ops_nil, go_ops, okG_some, okB_some, gwD_bool, cwD_bool, gw_true, gw_false, guardG, opG, isPtr, inB, sval, stake, eats, eaters, get, cval, cval1, croom, St.taken, put_slot, put_room, put_box, put_ctr, put_none, dem_none, setBox_slot, setBox_room, setBox_box, ↓reduceIte, Nat.reduceEqDiff, Nat.reduceLT, Nat.reduceLeDiff, reduceCtorEq, decide_true, List.filterMap_cons, List.filterMap_nil, Option.bind_some, Option.map_some, List.getElem?_cons_zero, List.getElem?_cons_succ, List.contains_cons, List.contains_nil, List.map_cons, List.map_nil, beq_self_eq_true, Bool.or_false, Bool.and_true, Nat.reduceBEq, Bool.false_eq_true, dbin, dIntBin, row11, frz11, frzOf_def, frz_nil, pureB, leaf, leafN, List.all_cons, List.all_nil, List.nil_append, List.append_nil, List.length_nil, List.length_cons, List.take_zero, List.drop_zero, List.drop_succ_cons, dcells, Nat.zero_add, Nat.reduceAdd, stepBox, Int.natCast_nonneg, Int.toNat_natCast, and_self, Nat.add_zero, dStrBin, dNilEq, isLit, dp9, fa26_4, ty54, dp54, fp54_0, fp54_1, zr54, ia22, dp23, ia23, len23]
    | (refine drW_intro (by kernel_rfl) ?_)
    | (refine gw_intro (fun h => ?_) (fun h => ?_) <;> (try simp only [beq_true, beq_false, Bool.not_eq_eq_eq_not, Bool.not_true, Bool.not_false, Bool.not_not, decide_eq_true_eq, decide_eq_false_iff_not, ge_iff_le, gt_iff_lt] at h)))
            refine hn _ ⟨m + 1, h, ?_, ?_, ?_, ?_, ?_, ?_, ?_, ?_, ?_, HO⟩ ?_
            · simp only [*, put_slot, ↓reduceIte]
            · simp only [*, put_slot, dem_slot, setBox_slot, ↓reduceIte, reduceCtorEq]
            · simp only [*, put_slot, dem_slot, setBox_slot, ↓reduceIte, Nat.reduceEqDiff]
            · simp only [*, put_slot, dem_slot, setBox_slot, ↓reduceIte, Nat.reduceEqDiff]
            · simp only [*, put_slot, dem_slot, setBox_slot, ↓reduceIte, Nat.reduceEqDiff]
            · simp only [*, put_slot, dem_slot, setBox_slot, ↓reduceIte, Nat.reduceEqDiff]
            · simp only [*, put_room, dem_room, setBox_room, ↓reduceIte, Nat.reduceEqDiff]
            · simp only [*, put_slot, dem_slot, setBox_slot, ↓reduceIte, Nat.reduceEqDiff]
            · simp only [*, put_room, dem_room, setBox_room, ↓reduceIte, Nat.reduceEqDiff]
            · simp only [slotI, *, put_slot, ↓reduceIte, Int.toNat_natCast]
              omega
          | true =>
            rw [show sameN sp nm ⟨a1, a2, a3⟩ = true by show (a1 == sp && a2 == nm) = true; rw [c1, c2]; rfl, if_pos rfl] at hO'
            subst hO'
            simp only [foundF] at *
            clear hx hn hR
            repeat' (first
    | simp only [*, go_seq, go_cond, go_block, go_skip, go_retc, go_region, go_ops_nil, go_ops, okG_some, okB_some, gwD_bool, cwD_bool, gw_true, guardG, opG, isPtr, inB, sval, stake, eats, eaters, get, cval, cval1, croom, St.taken, put_slot, put_room, put_box, put_ctr, put_none, dem_none, setBox_slot, setBox_room, setBox_box, ↓reduceIte, Nat.reduceEqDiff, Nat.reduceLT, Nat.reduceLeDiff, reduceCtorEq, decide_true, List.filterMap_cons, List.filterMap_nil, Option.bind_some, Option.map_some, List.getElem?_cons_zero, List.getElem?_cons_succ, List.contains_cons, List.contains_nil, List.map_cons, List.map_nil, beq_self_eq_true, Bool.or_false, Bool.and_true, Nat.reduceBEq, Bool.false_eq_true, dbin, dIntBin, row11, frz11, frzOf_def, frz_nil, pureB, leaf, leafN, List.all_cons, List.all_nil, List.nil_append, List.append_nil, List.length_nil, List.length_cons, List.take_zero, List.drop_zero, List.drop_succ_cons, dcells, Nat.zero_add, Nat.reduceAdd, stepBox, Int.natCast_nonneg, Int.toNat_natCast, and_self, Nat.add_zero, dStrBin, dNilEq, isLit, dp9, fa26_4, ty54, dp54, fp54_0, fp54_1, fp54_2, zr54, ia22, dp23, ia23, len23]
    | (refine drW_intro (by kernel_rfl) ?_)
    | (refine gw_intro (fun h => ?_) (fun h => ?_) <;> (try simp only [beq_true, beq_false, Bool.not_eq_eq_eq_not, Bool.not_true, Bool.not_false, Bool.not_not, decide_eq_true_eq, decide_eq_false_iff_not, ge_iff_le, gt_iff_lt] at h)))
            refine hr _ ?_
            repeat' (first
    | simp only [*, put_slot, put_room, put_box, dem_box, setBox_box, endQ, endR, endV, rvars, rvar, room1, ↓reduceIte, Nat.reduceEqDiff, List.map_cons, List.map_nil, pureB, leaf, leafN, List.take_nil, List.range_zero, and_self]
    | (refine drW_intro (by kernel_rfl) ?_)
    | (refine gw_intro (fun h => ?_) (fun h => ?_) <;> (try simp only [beq_true, beq_false, Bool.not_eq_eq_eq_not, Bool.not_true, Bool.not_false, Bool.not_not, decide_eq_true_eq, decide_eq_false_iff_not, ge_iff_le, gt_iff_lt] at h)))
      · have gm : ¬ (m : Int) < l.length := by omega
        rw [find_end _ (by omega)] at hO'
        subst hO'
        simp only [foundF] at *
        clear hn hr hl hR
        repeat' (first
    | simp only [*, go_nil, go_seq, go_cond, go_exit, go_xcode, go_region, go_ops_nil, go_ops, okG_some, cwD_bool, gw_false, guardG, opG, isPtr, inB, sval, stake, eats, eaters, get, St.taken, put_slot, dem_none, ↓reduceIte, Nat.reduceEqDiff, Nat.reduceLT, reduceCtorEq, decide_true, decide_false, List.filterMap_cons, List.filterMap_nil, Option.map_some, List.getElem?_cons_zero, List.getElem?_cons_succ, List.contains_cons, List.contains_nil, List.map_cons, List.map_nil, Bool.or_false, Bool.false_eq_true, dbin, dIntBin, row11, frz11, frzOf_def, frz_nil, List.length_nil, List.length_cons, dcells, Nat.zero_add, Nat.reduceAdd, Int.natCast_nonneg, and_self, fa26_4, ia22, dp23, len23]
    | (refine drW_intro (by kernel_rfl) ?_)
    | (refine gw_intro (fun h => ?_) (fun h => ?_) <;> (try simp only [beq_true, beq_false, Bool.not_eq_eq_eq_not, Bool.not_true, Bool.not_false, Bool.not_not, decide_eq_true_eq, decide_eq_false_iff_not, ge_iff_le, gt_iff_lt] at h)))
        refine hx _ _ ?_
        repeat' (first
    | simp only [*, go_seq, go_retc, go_xblk, go_region, go_ops_nil, go_ops, okG_some, guardG, opG, inB, sval, stake, eats, eaters, get, cval, cval1, croom, put_slot, put_room, put_box, dem_none, endQ, endR, endV, rvars, rvar, room1, ↓reduceIte, Nat.reduceEqDiff, Nat.reduceLT, decide_true, List.filterMap_cons, List.filterMap_nil, List.contains_cons, List.contains_nil, List.map_cons, List.map_nil, Bool.or_false, Bool.false_eq_true, row11, frz11, frzOf_def, frz_nil, pureB, leaf, leafN, List.take_nil, List.range_zero, and_self]
    | (refine drW_intro (by kernel_rfl) ?_)
    | (refine gw_intro (fun h => ?_) (fun h => ?_) <;> (try simp only [beq_true, beq_false, Bool.not_eq_eq_eq_not, Bool.not_true, Bool.not_false, Bool.not_not, decide_eq_true_eq, decide_eq_false_iff_not, ge_iff_le, gt_iff_lt] at h)))
end Go.Av
/- Chapter 11: rows and elements; tells. -/
set_option linter.unusedSimpArgs false
set_option linter.unusedVariables false
set_option linter.unusedSectionVars false
set_option maxRecDepth 100000
namespace Go.Av
open Go.Proofs
variable {chk : List D → Bool}
/-- The room of a list of numbers that was made by appends. -/
def roomOf (l : List Int) : Room := if l = [] then .full else .own 3
theorem room_ok (l : List Int) : roomOf l = .full ∨ roomOf l = .own 3 := by
  unfold roomOf
  split
  · exact .inl rfl
  · exact .inr rfl
theorem room_app (l : List Int) (z : Int) : roomOf (l ++ [z]) = .own 3 := by simp [roomOf]
def elL (ns : List Nd) : Nat → List Int
  | 0 => []
  | k + 1 => if kAt ns k = 1 then elL ns k ++ [(k : Int)] else elL ns k
theorem elF_elL {ns : List Nd} : ∀ {k : Nat}, k ≤ ns.length → elF (ns.map Nd.d) k = elL ns k
  | 0, _ => rfl
  | k + 1, h => by
    obtain ⟨e1, e2⟩ := ndK_at (ns := ns) (k := k) h
    rw [elF, elL, e1, elF_elL (Nat.le_of_succ_le h)]
theorem elL_len {ns : List Nd} : ∀ {m : Nat}, (elL ns m).length ≤ m
  | 0 => Nat.le_refl _
  | m + 1 => by
    have := elL_len (ns := ns) (m := m)
    rw [elL]
    split
    · simp; omega
    · omega
theorem treeN_E (ns : List Nd) : ∃ M P, treeN ns = .fix (.agg [.list (ns.map Nd.d), .list ((elL ns ns.length).map (.int .i64)), M, P]) 0 := by
  refine ⟨.imap ((ns.map Nd.d).map ndP) ((ns.map Nd.d).map fun e => i64s (rowF (ns.map Nd.d) (ndP e) (ns.map Nd.d).length)), i64s (plF (ns.map Nd.d) ns.length), ?_⟩
  unfold treeN treeD
  rw [List.length_map, elF_elL (Nat.le_refl _)]
  rfl
theorem elements_L (ns : List Nd) (hS : ns.length ≤ 10000) : callL Tryd.prog (ext11b chk) 22 [treeN ns] [] = some (.list ((elL ns ns.length).map (.int .i64)), [.no], []) := by
  obtain ⟨M, P, ht⟩ := treeN_E ns
  rw [ht]
  clear ht
  have hl := elL_len (ns := ns) (m := ns.length)
  have hc := clone_L (chk := chk) (elL ns ns.length) (by omega)
  generalize (elL ns ns.length).map (D.int .i64) = Z at *
  clear hl
  refine callK (m := 8) (res := [2]) (rs := [.tmp 2]) rfl Tryd.func22 rfl rfl rfl rfl rfl ?_
  repeat' (first
    | simp only [*, go_seq, go_retc, go_region, go_ops_nil, go_ops, okG_some, guardG, opG, isPtr, inB, sval, stake, eats, eaters, get, cval, cval1, croom, St.taken, put_slot, put_room, put_box, dem_none, dem_box, entry_slot, entry_box, endQ, endR, endV, rvars, rvar, room1, ↓reduceIte, Nat.reduceLT, reduceCtorEq, decide_true, List.filterMap_cons, List.filterMap_nil, Option.map_some, List.getElem?_cons_zero, List.getElem?_cons_succ, List.getD_cons_zero, List.contains_cons, List.contains_nil, List.map_cons, List.map_nil, beq_self_eq_true, Bool.or_false, Bool.and_true, Nat.reduceBEq, Bool.false_eq_true, okR, callG, row11, frz11, frzOf_def, frz_nil, pureB, leaf, leafN, List.all_cons, List.all_nil, List.nil_append, List.append_nil, List.take_nil, List.range_zero, List.length_nil, List.getElem?_nil, dcells, Nat.zero_add, and_self, fa59_1, dp39, frz11b]
    | (refine drW_intro (by kernel_rfl) ?_)
    | (refine gw_intro (fun h => ?_) (fun h => ?_) <;> (try simp only [beq_true, beq_false, Bool.not_eq_eq_eq_not, Bool.not_true, Bool.not_false, Bool.not_not, decide_eq_true_eq, decide_eq_false_iff_not, ge_iff_le, gt_iff_lt] at h)))
theorem sz1b (l : List Int) : szOk 1 (l.map (D.int .i64)) = true := by cases l <;> rfl
set_option maxHeartbeats 8000000 in
theorem rrow_L (ns : List Nd) (n : Int) (hS : ns.length ≤ 10000) : callL Tryd.prog (ext11b chk) 37 [.list (ns.map Nd.d), .int .i64 n] [] = some (.list ((rowI ns n).map (.int .i64)), [roomOf (rowI ns n)], []) := by
  have hE := relem_L (chk := chk) ns n
  have lN := lenM ns Nd.d
  unfold rowI
  cases he : elB ns n with
  | false =>
    rw [he] at hE
    rw [if_neg (by simp)]
    have hr0 : roomOf [] = .full := rfl
    clear he hS
    refine callK (m := 42) (res := [4]) (rs := [.tmp 4]) rfl Tryd.func37 rfl rfl rfl rfl rfl ?_
    repeat' (first
    | simp only [*, go_seq, go_block, go_loop, go_region, go_ops_nil, go_ops, okG_some, guardG, opG, inB, sval, stake, eats, eaters, get, cval, cval1, croom, St.taken, put_slot, put_room, dem_none, entry_slot, ↓reduceIte, Nat.reduceLT, decide_true, List.filterMap_cons, List.filterMap_nil, Option.map_some, List.contains_cons, List.contains_nil, List.map_nil, Bool.or_false, Nat.reduceBEq, Bool.false_eq_true, row11, frz11, frzOf_def, frz_nil, List.length_nil, bs39e, frz11b]
    | (refine drW_intro (by kernel_rfl) ?_)
    | (refine gw_intro (fun h => ?_) (fun h => ?_) <;> (try simp only [beq_true, beq_false, Bool.not_eq_eq_eq_not, Bool.not_true, Bool.not_false, Bool.not_not, decide_eq_true_eq, decide_eq_false_iff_not, ge_iff_le, gt_iff_lt] at h)))
    refine loopH (fun st => st.slot 0 = .list (ns.map Nd.d) ∧ st.slot 1 = .int .i64 n ∧ st.slot 6 = .int .i64 0 ∧ st.slot 5 = .list [] ∧ st.room 5 = [.full]) (fun st => 0) ?_ ?_
    · refine ⟨?_, ?_, ?_, ?_, ?_⟩
      all_goals simp only [*, put_slot, put_room, dem_slot, entry_slot, ↓reduceIte, Nat.reduceEqDiff, reduceCtorEq, List.getD_cons_zero, List.getD_cons_succ]
      all_goals rfl
    · rintro st K ⟨g0, g1, g6, g5, r5⟩ hn hx hr
      clear hn hr
      repeat' (first
    | simp only [*, go_nil, go_seq, go_cond, go_exit, go_xcode, go_region, go_ops_nil, go_ops, okG_some, gwD_bool, cwD_bool, gw_false, guardG, opG, isPtr, inB, sval, stake, eats, eaters, get, cval, cval1, croom, St.taken, put_slot, put_room, dem_none, ↓reduceIte, Nat.reduceEqDiff, Nat.reduceLT, decide_true, List.filterMap_cons, List.filterMap_nil, Option.bind_some, List.getElem?_cons_zero, List.getElem?_cons_succ, List.contains_cons, List.contains_nil, List.map_cons, List.map_nil, Bool.or_false, Bool.and_true, Bool.false_eq_true, dbin, dIntBin, okR, callG, row11, frz11, frzOf_def, frz_nil, beq_true, pureB, leaf, leafN, List.all_cons, List.all_nil, List.nil_append, List.append_nil, dStrBin, dNilEq, isLit]
    | (refine drW_intro (by kernel_rfl) ?_)
    | (refine gw_intro (fun h => ?_) (fun h => ?_) <;> (try simp only [beq_true, beq_false, Bool.not_eq_eq_eq_not, Bool.not_true, Bool.not_false, Bool.not_not, decide_eq_true_eq, decide_eq_false_iff_not, ge_iff_le, gt_iff_lt] at h)))
      refine hx _ _ ?_
      repeat' (first
    | simp only [*, go_seq, go_retc, go_xblk, go_region, go_ops_nil, go_ops, okG_some, guardG, opG, inB, sval, stake, eats, eaters, get, St.taken, put_slot, put_room, put_box, dem_box, endQ, endR, endV, rvars, rvar, room1, ↓reduceIte, Nat.reduceEqDiff, Nat.reduceLT, decide_true, List.filterMap_cons, List.filterMap_nil, List.contains_cons, List.contains_nil, List.map_nil, beq_self_eq_true, Bool.or_false, Bool.false_eq_true, row11, frz11, frzOf_def, frz_nil, pureB, leaf, leafN, List.take_nil, List.range_zero, List.take_succ_cons, and_self]
    | (refine drW_intro (by kernel_rfl) ?_)
    | (refine gw_intro (fun h => ?_) (fun h => ?_) <;> (try simp only [beq_true, beq_false, Bool.not_eq_eq_eq_not, Bool.not_true, Bool.not_false, Bool.not_not, decide_eq_true_eq, decide_eq_false_iff_not, ge_iff_le, gt_iff_lt] at h)))
  | true =>
    rw [he] at hE
    obtain ⟨i, rfl, hi, hk⟩ := elB_at (ns := ns) (n := n) he
    obtain ⟨x, hx⟩ := some_at hi
    have ha := getD_map (f := Nd.d) hx
    rw [ndat] at ha
    have g9 : (i : Int) < ns.length := by omega
    have tn : (i : Int).toNat = i := by omega
    have hp : pAt ns i = x.p := by unfold pAt; rw [hx]
    rw [if_pos rfl, tn, hp]
    have HI := Hd.mk hi
    have HS := Hd.mk hS
    clear hk he hx hp hi hS
    generalize x.at_.map At.d = LA at *
    generalize x.st.map D.str = LS at *
    generalize x.k = xk at *
    generalize x.sp = xsp at *
    generalize x.nm = xnm at *
    generalize x.tx = xtx at *
    generalize x.p = key at *
    refine callK (m := 42) (res := [4]) (rs := [.tmp 4]) rfl Tryd.func37 rfl rfl rfl rfl rfl ?_
    repeat' (first
    | simp only [*, go_seq, go_block, go_loop, go_region, go_ops_nil, go_ops, okG_some, guardG, opG, inB, sval, stake, eats, eaters, get, cval, cval1, croom, St.taken, put_slot, put_room, dem_none, entry_slot, ↓reduceIte, Nat.reduceLT, decide_true, List.filterMap_cons, List.filterMap_nil, Option.map_some, List.contains_cons, List.contains_nil, List.map_nil, Bool.or_false, Nat.reduceBEq, Bool.false_eq_true, row11, frz11, frzOf_def, frz_nil, List.length_nil, bs39e, frz11b]
    | (refine drW_intro (by kernel_rfl) ?_)
    | (refine gw_intro (fun h => ?_) (fun h => ?_) <;> (try simp only [beq_true, beq_false, Bool.not_eq_eq_eq_not, Bool.not_true, Bool.not_false, Bool.not_not, decide_eq_true_eq, decide_eq_false_iff_not, ge_iff_le, gt_iff_lt] at h)))
    refine loopH (fun st => ∃ m : Nat, m ≤ i + 1 ∧ st.slot 6 = .int .i64 m ∧ st.slot 0 = .list (ns.map Nd.d) ∧ st.slot 1 = .int .i64 i ∧ st.slot 5 = .list ((rowL ns key m).map (.int .i64)) ∧ st.room 5 = [roomOf (rowL ns key m)]) (fun st => i + 1 - slotI st 6) ?_ ?_
    · refine ⟨0, Nat.zero_le _, ?_, ?_, ?_, ?_, ?_⟩
      all_goals simp only [*, put_slot, put_room, dem_slot, entry_slot, ↓reduceIte, Nat.reduceEqDiff, reduceCtorEq, List.getD_cons_zero, List.getD_cons_succ, and_true, List.cons.injEq]
      all_goals rfl
    · rintro st K ⟨m, hm, g6, g0, g1, g5, r5⟩ hn hx hr
      have hi : i < ns.length := HI
      have hS : ns.length ≤ 10000 := HS
      by_cases h : m < i + 1
      · have gm : (m : Int) ≤ i := by omega
        have gm2 : (m : Int) < ns.length := by omega
        have hw := wrapS m (by omega)
        obtain ⟨y, hy⟩ := some_at (show m < ns.length by omega)
        have hb := getD_map (f := Nd.d) hy
        rw [ndat] at hb
        have hpk : kAt ns m = y.k ∧ pAt ns m = y.p := by unfold kAt pAt; rw [hy]; exact ⟨rfl, rfl⟩
        have hrl := rowL_len (ns := ns) (key := key) (m := m)
        have hro := room_ok (rowL ns key m)
        have hra := room_app (rowL ns key m) m
        have hsz := sz1b (rowL ns key m)
        have hs1 : szOk 1 [D.int .i64 (m : Int)] = true := rfl
        have hl1 : ((rowL ns key m).map (D.int .i64)).length + 1 ≤ 1073741824 := by rw [List.length_map]; omega
        have hl2 : ((rowL ns key m).map (D.int .i64)).length ≤ 1073741823 := by rw [List.length_map]; omega
        have hre : rowL ns key (m + 1) = if y.k = 1 ∧ y.p = key then rowL ns key m ++ [(m : Int)] else rowL ns key m := by rw [rowL, hpk.1, hpk.2]
        clear hy hpk hrl hi hS hx hr
        generalize y.at_.map At.d = YA at *
        generalize y.st.map D.str = YS at *
        generalize y.k = yk at *
        generalize y.p = yp at *
        by_cases c1 : yk = 1
        · by_cases c2 : yp = key
          · rw [if_pos ⟨c1, c2⟩] at hre
            subst c1 c2
            repeat' (first
    | simp only [*, go_nil, go_seq, go_cond, go_block, go_blk, go_skip, go_region, go_draw, go_ops_nil, go_ops, go_dops1, go_dops, okG_some, gwD_bool, cwD_bool, gw_true, guardG, opG, opD, isPtr, isStore, inB, sval, stake, eats, eaters, get, cval, cval1, croom, St.taken, put_slot, put_room, dem_none, dem_slot, ↓reduceIte, Nat.reduceEqDiff, Nat.reduceLT, reduceCtorEq, decide_true, List.filterMap_cons, List.filterMap_nil, Option.bind_some, Option.map_some, Option.bind_none, List.getElem?_cons_zero, List.getElem?_cons_succ, List.contains_cons, List.contains_nil, List.map_cons, List.map_nil, beq_self_eq_true, Bool.or_false, Bool.and_true, Nat.reduceBEq, Bool.false_eq_true, dbin, dIntBin, okR, callG, row11, frz11, frzOf_def, frz_nil, isLocal, allocKey, isAlloc, loadsOwn, pureB, leaf, leafN, List.all_cons, List.all_nil, List.nil_append, List.append_nil, List.length_nil, List.length_cons, List.find?_cons, List.find?_nil, dcells, Nat.zero_add, Nat.reduceAdd, and_true, Int.natCast_nonneg, Int.toNat_natCast, and_self, Nat.add_zero, List.cons.injEq, List.getElem?_toArray, dStrBin, ap39, bs39, dNilEq, isLit, dp3, fa26_0, fa26_1, ia22]
    | (refine drW_intro (by kernel_rfl) ?_)
    | (refine gw_intro (fun h => ?_) (fun h => ?_) <;> (try simp only [beq_true, beq_false, Bool.not_eq_eq_eq_not, Bool.not_true, Bool.not_false, Bool.not_not, decide_eq_true_eq, decide_eq_false_iff_not, ge_iff_le, gt_iff_lt] at h)))
            refine hn _ ⟨m + 1, h, ?_, ?_, ?_, ?_, ?_⟩ ?_
            · simp only [*, put_slot, ↓reduceIte]
            · simp only [*, put_slot, dem_slot, ↓reduceIte, reduceCtorEq]
            · simp only [*, put_slot, dem_slot, ↓reduceIte, Nat.reduceEqDiff]
            · simp only [*, List.map_append, put_slot, dem_slot, ↓reduceIte, Nat.reduceEqDiff, List.map_cons, List.map_nil]
            · simp only [*, put_room, dem_room, ↓reduceIte, Nat.reduceEqDiff]
            · have hgt : m < i + 1 := h
              simp only [slotI, *, put_slot, ↓reduceIte, Int.toNat_natCast, gt_iff_lt]
              omega
          · rw [if_neg (fun h => c2 h.2)] at hre
            have b2 : (yp == key) = false := by simpa using c2
            subst c1
            clear c2 hra hs1 hl1 hl2 hsz hro
            repeat' (first
    | simp only [*, go_nil, go_seq, go_cond, go_block, go_blk, go_skip, go_region, go_draw, go_ops_nil, go_ops, go_dops1, go_dops, okG_some, gwD_bool, cwD_bool, gw_true, gw_false, guardG, opG, opD, isPtr, isStore, inB, sval, stake, eats, eaters, get, cval, cval1, croom, St.taken, put_slot, put_room, dem_none, ↓reduceIte, Nat.reduceEqDiff, Nat.reduceLT, reduceCtorEq, decide_true, List.filterMap_cons, List.filterMap_nil, Option.bind_some, Option.map_some, Option.bind_none, List.getElem?_cons_zero, List.getElem?_cons_succ, List.contains_cons, List.contains_nil, List.map_cons, List.map_nil, beq_self_eq_true, Bool.or_false, Bool.and_true, Nat.reduceBEq, Bool.false_eq_true, dbin, dIntBin, okR, callG, row11, frz11, frzOf_def, frz_nil, isLocal, allocKey, isAlloc, loadsOwn, pureB, leaf, leafN, List.all_cons, List.all_nil, List.nil_append, List.append_nil, List.length_nil, List.length_cons, List.find?_cons, List.find?_nil, dcells, Nat.zero_add, Nat.reduceAdd, Int.natCast_nonneg, Int.toNat_natCast, and_self, Nat.add_zero, dStrBin, dNilEq, isLit, dp3, fa26_0, fa26_1, ia22]
    | (refine drW_intro (by kernel_rfl) ?_)
    | (refine gw_intro (fun h => ?_) (fun h => ?_) <;> (try simp only [beq_true, beq_false, Bool.not_eq_eq_eq_not, Bool.not_true, Bool.not_false, Bool.not_not, decide_eq_true_eq, decide_eq_false_iff_not, ge_iff_le, gt_iff_lt] at h)))
            refine hn _ ⟨m + 1, h, ?_, ?_, ?_, ?_, ?_⟩ ?_
            · simp only [*, put_slot, ↓reduceIte]
            · simp only [*, put_slot, dem_slot, ↓reduceIte, reduceCtorEq]
            · simp only [*, put_slot, dem_slot, ↓reduceIte, Nat.reduceEqDiff]
            · simp only [*, put_slot, dem_slot, ↓reduceIte, Nat.reduceEqDiff]
            · simp only [*, put_room, dem_room, ↓reduceIte, Nat.reduceEqDiff]
            · have hgt : m < i + 1 := h
              simp only [slotI, *, put_slot, ↓reduceIte, Int.toNat_natCast, gt_iff_lt]
              omega
        · rw [if_neg (fun h => c1 h.1)] at hre
          have b1 : (yk == 1) = false := by simpa using c1
          clear c1 hra hs1 hl1 hl2 hsz hro
          repeat' (first
    | simp only [*, go_nil, go_seq, go_cond, go_block, go_blk, go_skip, go_region, go_draw, go_ops_nil, go_ops, go_dops1, go_dops, okG_some, gwD_bool, cwD_bool, gw_true, gw_false, guardG, opG, opD, isPtr, isStore, inB, sval, stake, eats, eaters, get, cval, cval1, croom, St.taken, put_slot, put_room, dem_none, ↓reduceIte, Nat.reduceEqDiff, Nat.reduceLT, reduceCtorEq, decide_true, List.filterMap_cons, List.filterMap_nil, Option.bind_some, Option.map_some, Option.bind_none, List.getElem?_cons_zero, List.getElem?_cons_succ, List.contains_cons, List.contains_nil, List.map_cons, List.map_nil, beq_self_eq_true, Bool.or_false, Bool.and_true, Nat.reduceBEq, Bool.false_eq_true, dbin, dIntBin, okR, callG, row11, frz11, frzOf_def, frz_nil, isLocal, allocKey, isAlloc, loadsOwn, beq_true, pureB, leaf, leafN, List.all_cons, List.all_nil, List.nil_append, List.append_nil, List.length_nil, List.length_cons, List.find?_cons, List.find?_nil, dcells, Nat.zero_add, Nat.reduceAdd, Int.natCast_nonneg, Int.toNat_natCast, and_self, dStrBin, dNilEq, isLit, dp3, fa26_1, ia22]
    | (refine drW_intro (by kernel_rfl) ?_)
    | (refine gw_intro (fun h => ?_) (fun h => ?_) <;> (try simp only [beq_true, beq_false, Bool.not_eq_eq_eq_not, Bool.not_true, Bool.not_false, Bool.not_not, decide_eq_true_eq, decide_eq_false_iff_not, ge_iff_le, gt_iff_lt] at h)))
          refine hn _ ⟨m + 1, h, ?_, ?_, ?_, ?_, ?_⟩ ?_
          · simp only [*, put_slot, ↓reduceIte]
          · simp only [*, put_slot, dem_slot, ↓reduceIte, reduceCtorEq]
          · simp only [*, put_slot, dem_slot, ↓reduceIte, Nat.reduceEqDiff]
          · simp only [*, put_slot, dem_slot, ↓reduceIte, Nat.reduceEqDiff]
          · simp only [*, put_room, dem_room, ↓reduceIte, Nat.reduceEqDiff]
          · have hgt : m < i + 1 := h
            simp only [slotI, *, put_slot, ↓reduceIte, Int.toNat_natCast, gt_iff_lt]
            omega
      · obtain rfl : m = i + 1 := by omega
        have gm : ¬ ((i + 1 : Nat) : Int) ≤ i := by omega
        clear hn hr hi hS h
        repeat' (first
    | simp only [*, go_nil, go_seq, go_cond, go_exit, go_xcode, go_region, go_ops_nil, go_ops, okG_some, gwD_bool, cwD_bool, gw_true, gw_false, guardG, opG, isPtr, inB, sval, stake, eats, eaters, get, croom, St.taken, put_slot, put_room, dem_none, ↓reduceIte, Nat.reduceEqDiff, Nat.reduceLT, decide_true, decide_false, List.filterMap_cons, List.filterMap_nil, Option.bind_some, Option.map_some, List.getElem?_cons_zero, List.getElem?_cons_succ, List.contains_cons, List.contains_nil, List.map_cons, List.map_nil, beq_self_eq_true, Bool.or_false, Bool.and_true, Bool.false_eq_true, dbin, dIntBin, okR, callG, row11, frz11, frzOf_def, frz_nil, pureB, leaf, leafN, List.all_cons, List.all_nil, List.nil_append, List.append_nil, dStrBin, dNilEq, isLit]
    | (refine drW_intro (by kernel_rfl) ?_)
    | (refine gw_intro (fun h => ?_) (fun h => ?_) <;> (try simp only [beq_true, beq_false, Bool.not_eq_eq_eq_not, Bool.not_true, Bool.not_false, Bool.not_not, decide_eq_true_eq, decide_eq_false_iff_not, ge_iff_le, gt_iff_lt] at h)))
        refine hx _ _ ?_
        repeat' (first
    | simp only [*, go_seq, go_retc, go_xblk, go_region, go_ops_nil, go_ops, okG_some, guardG, opG, inB, sval, stake, eats, eaters, get, St.taken, put_slot, put_room, put_box, dem_box, endQ, endR, endV, rvars, rvar, room1, ↓reduceIte, Nat.reduceEqDiff, Nat.reduceLT, decide_true, List.filterMap_cons, List.filterMap_nil, List.contains_cons, List.contains_nil, List.map_nil, beq_self_eq_true, Bool.or_false, Bool.false_eq_true, row11, frz11, frzOf_def, frz_nil, pureB, leaf, leafN, List.take_nil, List.range_zero, List.take_succ_cons, and_self]
    | (refine drW_intro (by kernel_rfl) ?_)
    | (refine gw_intro (fun h => ?_) (fun h => ?_) <;> (try simp only [beq_true, beq_false, Bool.not_eq_eq_eq_not, Bool.not_true, Bool.not_false, Bool.not_not, decide_eq_true_eq, decide_eq_false_iff_not, ge_iff_le, gt_iff_lt] at h)))
set_option maxHeartbeats 8000000 in
theorem relements_L (ns : List Nd) (hS : ns.length ≤ 10000) : callL Tryd.prog (ext11b chk) 23 [.list (ns.map Nd.d)] [] = some (.list ((elL ns ns.length).map (.int .i64)), [roomOf (elL ns ns.length)], []) := by
  have lN := lenM ns Nd.d
  have HS := Hd.mk hS
  obtain ⟨i, HI⟩ : ∃ i, Hd (i = ns.length) := ⟨_, rfl⟩
  rw [show elL ns ns.length = elL ns i by rw [show i = ns.length from HI]]
  clear hS
  refine callK (m := 23) (res := [2]) (rs := [.tmp 2]) rfl Tryd.func23 rfl rfl rfl rfl rfl ?_
  repeat' (first
    | simp only [*, go_seq, go_block, go_loop, go_region, go_ops_nil, go_ops, okG_some, guardG, opG, inB, sval, stake, eats, eaters, get, cval, cval1, croom, St.taken, put_slot, put_room, dem_none, entry_slot, ↓reduceIte, Nat.reduceLT, decide_true, List.filterMap_cons, List.filterMap_nil, Option.map_some, List.contains_cons, List.contains_nil, List.map_nil, Bool.or_false, Nat.reduceBEq, Bool.false_eq_true, row11, frz11, frzOf_def, frz_nil, List.length_nil, bs39e, frz11b]
    | (refine drW_intro (by kernel_rfl) ?_)
    | (refine gw_intro (fun h => ?_) (fun h => ?_) <;> (try simp only [beq_true, beq_false, Bool.not_eq_eq_eq_not, Bool.not_true, Bool.not_false, Bool.not_not, decide_eq_true_eq, decide_eq_false_iff_not, ge_iff_le, gt_iff_lt] at h)))
  refine loopH (fun st => ∃ m : Nat, m ≤ ns.length ∧ st.slot 4 = .int .i64 m ∧ st.slot 0 = .list (ns.map Nd.d) ∧ st.slot 3 = .list ((elL ns m).map (.int .i64)) ∧ st.room 3 = [roomOf (elL ns m)]) (fun st => ns.length - slotI st 4) ?_ ?_
  · refine ⟨0, Nat.zero_le _, ?_, ?_, ?_, ?_⟩
    all_goals simp only [*, put_slot, put_room, dem_slot, entry_slot, ↓reduceIte, Nat.reduceEqDiff, reduceCtorEq, List.getD_cons_zero, and_true, List.cons.injEq]
    all_goals rfl
  · rintro st K ⟨m, hm, g6, g0, g5, r5⟩ hn hx hr
    have hS : ns.length ≤ 10000 := HS
    by_cases h : m < ns.length
    · have gm2 : (m : Int) < ns.length := by omega
      have hw := wrapS m (by omega)
      obtain ⟨y, hy⟩ := some_at (show m < ns.length by omega)
      have hb := getD_map (f := Nd.d) hy
      rw [ndat] at hb
      have hpk : kAt ns m = y.k := by unfold kAt; rw [hy]
      have hrl := elL_len (ns := ns) (m := m)
      have hro := room_ok (elL ns m)
      have hra := room_app (elL ns m) m
      have hsz := sz1b (elL ns m)
      have hs1 : szOk 1 [D.int .i64 (m : Int)] = true := rfl
      have hl1 : ((elL ns m).map (D.int .i64)).length + 1 ≤ 1073741824 := by rw [List.length_map]; omega
      have hl2 : ((elL ns m).map (D.int .i64)).length ≤ 1073741823 := by rw [List.length_map]; omega
      have hre : elL ns (m + 1) = if y.k = 1 then elL ns m ++ [(m : Int)] else elL ns m := by rw [elL, hpk]
      clear hy hpk hrl hS hx hr
      generalize y.at_.map At.d = YA at *
      generalize y.st.map D.str = YS at *
      generalize y.k = yk at *
      by_cases c1 : yk = 1
      · rw [if_pos c1] at hre
        subst c1
        repeat' (first
    | simp only [*, go_nil, go_seq, go_cond, go_block, go_blk, go_skip, go_region, go_ops_nil, go_ops, okG_some, cwD_bool, gw_true, guardG, opG, isPtr, inB, sval, stake, eats, eaters, get, cval, cval1, St.taken, put_slot, put_room, dem_none, dem_slot, ↓reduceIte, Nat.reduceEqDiff, Nat.reduceLT, reduceCtorEq, decide_true, List.filterMap_cons, List.filterMap_nil, Option.map_some, List.getElem?_cons_zero, List.getElem?_cons_succ, List.contains_cons, List.contains_nil, List.map_cons, List.map_nil, beq_self_eq_true, Bool.or_false, Nat.reduceBEq, Bool.false_eq_true, dbin, dIntBin, row11, frz11, frzOf_def, frz_nil, List.length_nil, List.length_cons, dcells, Nat.zero_add, Nat.reduceAdd, and_true, Int.natCast_nonneg, Int.toNat_natCast, and_self, List.cons.injEq, List.getElem?_toArray, ap39, bs39, dp3, fa26_1, ia22, len22]
    | (refine drW_intro (by kernel_rfl) ?_)
    | (refine gw_intro (fun h => ?_) (fun h => ?_) <;> (try simp only [beq_true, beq_false, Bool.not_eq_eq_eq_not, Bool.not_true, Bool.not_false, Bool.not_not, decide_eq_true_eq, decide_eq_false_iff_not, ge_iff_le, gt_iff_lt] at h)))
        refine hn _ ⟨m + 1, h, ?_, ?_, ?_, ?_⟩ ?_
        · simp only [*, put_slot, ↓reduceIte]
        · simp only [*, put_slot, dem_slot, ↓reduceIte, reduceCtorEq]
        · simp only [*, List.map_append, put_slot, dem_slot, ↓reduceIte, Nat.reduceEqDiff, List.map_cons, List.map_nil]
        · simp only [*, put_room, dem_room, ↓reduceIte, Nat.reduceEqDiff]
        · simp only [slotI, *, put_slot, ↓reduceIte, Int.toNat_natCast]
          omega
      · rw [if_neg c1] at hre
        have b1 : (yk == 1) = false := by simpa using c1
        clear c1 hra hs1 hl1 hl2 hsz hro
        repeat' (first
    | simp only [*, go_nil, go_seq, go_cond, go_block, go_blk, go_skip, go_region, go_ops_nil, go_ops, okG_some, cwD_bool, gw_true, gw_false, guardG, opG, isPtr, inB, sval, stake, eats, eaters, get, cval, cval1, St.taken, put_slot, put_room, dem_none, ↓reduceIte, Nat.reduceEqDiff, Nat.reduceLT, reduceCtorEq, decide_true, List.filterMap_cons, List.filterMap_nil, Option.map_some, List.getElem?_cons_zero, List.getElem?_cons_succ, List.contains_cons, List.contains_nil, List.map_cons, List.map_nil, Bool.or_false, Nat.reduceBEq, Bool.false_eq_true, dbin, dIntBin, row11, frz11, frzOf_def, frz_nil, List.length_nil, List.length_cons, dcells, Nat.zero_add, Nat.reduceAdd, Int.natCast_nonneg, Int.toNat_natCast, and_self, dp3, fa26_1, ia22, len22]
    | (refine drW_intro (by kernel_rfl) ?_)
    | (refine gw_intro (fun h => ?_) (fun h => ?_) <;> (try simp only [beq_true, beq_false, Bool.not_eq_eq_eq_not, Bool.not_true, Bool.not_false, Bool.not_not, decide_eq_true_eq, decide_eq_false_iff_not, ge_iff_le, gt_iff_lt] at h)))
        refine hn _ ⟨m + 1, h, ?_, ?_, ?_, ?_⟩ ?_
        · simp only [*, put_slot, ↓reduceIte]
        · simp only [*, put_slot, dem_slot, ↓reduceIte, reduceCtorEq]
        · simp only [*, put_slot, dem_slot, ↓reduceIte, Nat.reduceEqDiff]
        · simp only [*, put_room, dem_room, ↓reduceIte, Nat.reduceEqDiff]
        · simp only [slotI, *, put_slot, ↓reduceIte, Int.toNat_natCast]
          omega
    · have gm2 : ¬ (m : Int) < ns.length := by omega
      obtain rfl : m = i := by rw [show i = ns.length from HI]; omega
      clear hn hr hS
      repeat' (first
    | simp only [*, go_nil, go_seq, go_cond, go_exit, go_xcode, go_region, go_ops_nil, go_ops, okG_some, cwD_bool, gw_false, guardG, opG, isPtr, inB, sval, stake, eats, eaters, get, St.taken, put_slot, dem_none, ↓reduceIte, Nat.reduceEqDiff, Nat.reduceLT, reduceCtorEq, decide_true, decide_false, List.filterMap_cons, List.filterMap_nil, Option.map_some, List.contains_cons, List.contains_nil, List.map_cons, List.map_nil, Bool.or_false, Bool.false_eq_true, dbin, dIntBin, row11, frz11, frzOf_def, frz_nil, len22]
    | (refine drW_intro (by kernel_rfl) ?_)
    | (refine gw_intro (fun h => ?_) (fun h => ?_) <;> (try simp only [beq_true, beq_false, Bool.not_eq_eq_eq_not, Bool.not_true, Bool.not_false, Bool.not_not, decide_eq_true_eq, decide_eq_false_iff_not, ge_iff_le, gt_iff_lt] at h)))
      refine hx _ _ ?_
      repeat' (first
    | simp only [*, go_seq, go_retc, go_xblk, go_region, go_ops_nil, go_ops, okG_some, guardG, opG, inB, sval, stake, eats, eaters, get, St.taken, put_slot, put_room, put_box, dem_box, endQ, endR, endV, rvars, rvar, room1, ↓reduceIte, Nat.reduceEqDiff, Nat.reduceLT, decide_true, List.filterMap_cons, List.filterMap_nil, List.contains_cons, List.contains_nil, List.map_nil, beq_self_eq_true, Bool.or_false, Bool.false_eq_true, row11, frz11, frzOf_def, frz_nil, pureB, leaf, leafN, List.take_nil, List.range_zero, List.take_succ_cons, and_self]
    | (refine drW_intro (by kernel_rfl) ?_)
    | (refine gw_intro (fun h => ?_) (fun h => ?_) <;> (try simp only [beq_true, beq_false, Bool.not_eq_eq_eq_not, Bool.not_true, Bool.not_false, Bool.not_not, decide_eq_true_eq, decide_eq_false_iff_not, ge_iff_le, gt_iff_lt] at h)))
end Go.Av
/- Chapter 11: the law's tells hands back true. -/
set_option linter.unusedSimpArgs false
set_option linter.unusedVariables false
set_option linter.unusedSectionVars false
set_option maxRecDepth 100000
namespace Go.Av
open Go.Proofs
variable {chk : List D → Bool}
theorem rowI_len (ns : List Nd) (n : Int) : (rowI ns n).length ≤ ns.length := by
  unfold rowI
  split
  · rename_i h
    obtain ⟨i, rfl, hi, _⟩ := elB_at (ns := ns) (n := n) h
    have := rowL_len (ns := ns) (key := pAt ns (i : Int).toNat) (m := (i : Int).toNat + 1)
    omega
  · simp
theorem not_el {ns : List Nd} {n : Int} (h : elB ns n = false) : parI ns n = (0, false) ∧ ahdI ns n = (0, false) ∧ rowI ns n = [] := by
  unfold parI ahdI rowI
  rw [h]
  exact ⟨by rw [if_neg (by simp)], by rw [if_neg (by simp)], by rw [if_neg (by simp)]⟩
set_option maxHeartbeats 16000000 in
theorem tells_out (ns : List Nd) (n : Int) (sp nm : List UInt8) (hS : SmallD ns) (hi : inB' ns n = false) : callL Tryd.prog (ext11b chk) 21 [treeN ns, .list (ns.map Nd.d), .int .i64 n, .str sp, .str nm] [] = some (.bool true, [.no], []) := by
  have h36 := node36_L (chk := chk) ns n hS
  have h37 := rrow_L (chk := chk) ns n hS.1
  have h13 := parent_L (chk := chk) ns n
  have h15 := ahead_L (chk := chk) ns n hS.1
  have h14 := row_L (chk := chk) ns n hS.1
  have h10 := relem_L (chk := chk) ns n
  have hrl := rowI_len ns n
  have h16 := usame_L (chk := chk) (rowI ns n) (rowI ns n) (by have := hS.1; omega) (by have := hS.1; omega)
  rw [decide_eq_true rfl] at h16
  have h38 := val38_L (chk := chk) ns n sp nm hS
  have h39 := rval39_L (chk := chk) ns n sp nm hS
  have h40 := sta40_L (chk := chk) ns n nm hS
  have h41 := rsta41_L (chk := chk) ns n nm hS
  obtain ⟨M, P, ht⟩ := treeN_E ns
  rw [ht] at h36 h13 h15 h14 h38 h40 ⊢
  generalize D.agg [.list (ns.map Nd.d), .list ((elL ns ns.length).map (.int .i64)), M, P] = TR at *
  have lN := lenM ns Nd.d
  have e1 : ((valI ns n sp nm).1 == (valI ns n sp nm).1) = true := by simp
  have e2 : ((valI ns n sp nm).2 == (valI ns n sp nm).2) = true := by simp
  have e3 : (staI ns n nm == staI ns n nm) = true := by simp
  generalize (valI ns n sp nm).1 = V1 at *
  generalize (valI ns n sp nm).2 = V2 at *
  generalize staI ns n nm = V3 at *
  have a3 := lenM (rowI ns n) (D.int .i64)
  have he : elB ns n = false := by
    unfold inB' at hi
    unfold elB
    rw [← Bool.and_assoc, hi, Bool.false_and]
  obtain ⟨q1, q2, q3⟩ := not_el he
  rw [he] at h10 h14
  rw [q1] at h13
  rw [q2] at h15
  rw [q3] at h37 h14 h16 a3
  have hz : nodeI ns n = zeroN := by unfold nodeI; rw [hi, if_neg (by decide)]
  rw [hz, hi] at h36
  have h35 := rnode_L (chk := chk) zeroN zeroN ⟨by decide, by decide⟩ ⟨by decide, by decide⟩
  rw [decide_eq_true rfl] at h35
  have hzd : zeroN.d = .agg [.int .i64 0, .int .i64 0, .str [], .str [], .list [], .list [], .str []] := rfl
  rw [hzd] at h36 h35
  have a4 : ((([] : List Int).map (D.int .i64)).length : Int) = 0 := rfl
  generalize ([] : List Int).map (D.int .i64) = ZZ at *
  unfold inB' at hi
  have hrr : roomOf [] = .full := rfl
  rw [hrr] at h37
  clear hS he q1 q2 q3 hz hzd ht hrl a3 hrr
  generalize ns.map Nd.d = NS at *
  by_cases c0 : 0 ≤ n
  · have c1 : ¬ n < ns.length := by
      rw [decide_eq_true c0, Bool.true_and] at hi
      exact of_decide_eq_false hi
    clear hi
    refine callK (m := 175) (res := [10]) (rs := [.tmp 10]) rfl Tryd.func21 rfl rfl rfl rfl rfl ?_
    repeat' (first
    | simp only [*, go_seq, go_cond, go_skip, go_retc, go_region, go_draw, go_ops_nil, go_ops, go_dops1, go_dops, okG_some, okB_some, gwD_bool, cwD_bool, gw_true, gw_false, guardG, opG, opD, isPtr, isStore, inB, sval, stake, eats, eaters, get, cval, cval1, croom, St.taken, put_slot, put_room, put_box, put_ctr, put_none, dem_none, dem_slot, dem_box, dem_ctr, dem_room, dem_room1, setBox_slot, setBox_room, setBox_box, entry_slot, entry_room, entry_box, entry_ctr, endQ, endR, endV, rvars, rvar, room1, ↓reduceIte, Nat.reduceEqDiff, Nat.reduceLT, Nat.reduceLeDiff, reduceCtorEq, decide_true, decide_false, List.filterMap_cons, List.filterMap_nil, Option.bind_some, Option.map_some, Option.bind_none, List.getElem?_cons_zero, List.getElem?_cons_succ, List.getD_cons_zero, List.getD_cons_succ, List.contains_cons, List.contains_nil, List.map_cons, List.map_nil, beq_self_eq_true, beq_iff_eq, Bool.or_false, Bool.or_true, Bool.and_true, Nat.reduceBEq, Bool.false_eq_true, dbin, dIntBin, okR, callG, row11, frz11, frzOf_def, frz_nil, isLocal, allocKey, isAlloc, loadsOwn, beq_true, Bool.not_true, Bool.not_false, pureB, leaf, leafN, List.all_cons, List.all_nil, List.nil_append, List.append_nil, List.take_nil, List.range_zero, List.length_nil, List.length_cons, List.find?_cons, List.find?_nil, dun, List.getElem?_nil, List.take_zero, List.drop_zero, List.drop_succ_cons, dcells, Nat.zero_add, Nat.reduceAdd, stepBox, and_self, ge_iff_le, gt_iff_lt, dStrBin, plainR_s, Int.reduceLT, Int.reduceBNe, bd26, dNilEq, isLit, ty4, ty26, dp26, zr26, len22, len39, frz11b]
    | (refine drW_intro (by kernel_rfl) ?_)
    | (refine gw_intro (fun h => ?_) (fun h => ?_) <;> (try simp only [beq_true, beq_false, Bool.not_eq_eq_eq_not, Bool.not_true, Bool.not_false, Bool.not_not, decide_eq_true_eq, decide_eq_false_iff_not, ge_iff_le, gt_iff_lt] at h)))
  · clear hi
    refine callK (m := 175) (res := [10]) (rs := [.tmp 10]) rfl Tryd.func21 rfl rfl rfl rfl rfl ?_
    repeat' (first
    | simp only [*, go_seq, go_cond, go_skip, go_retc, go_region, go_draw, go_ops_nil, go_ops, go_dops1, go_dops, okG_some, okB_some, gwD_bool, cwD_bool, gw_true, gw_false, guardG, opG, opD, isPtr, isStore, inB, sval, stake, eats, eaters, get, cval, cval1, croom, St.taken, put_slot, put_room, put_box, put_ctr, put_none, dem_none, dem_slot, dem_box, dem_ctr, dem_room, dem_room1, setBox_slot, setBox_room, setBox_box, entry_slot, entry_room, entry_box, entry_ctr, endQ, endR, endV, rvars, rvar, room1, ↓reduceIte, Nat.reduceEqDiff, Nat.reduceLT, Nat.reduceLeDiff, reduceCtorEq, decide_true, decide_false, List.filterMap_cons, List.filterMap_nil, Option.bind_some, Option.map_some, Option.bind_none, List.getElem?_cons_zero, List.getElem?_cons_succ, List.getD_cons_zero, List.getD_cons_succ, List.contains_cons, List.contains_nil, List.map_cons, List.map_nil, beq_self_eq_true, beq_iff_eq, Bool.or_false, Bool.or_true, Bool.and_true, Nat.reduceBEq, Bool.false_eq_true, dbin, dIntBin, okR, callG, row11, frz11, frzOf_def, frz_nil, isLocal, allocKey, isAlloc, loadsOwn, beq_true, Bool.not_true, Bool.not_false, pureB, leaf, leafN, List.all_cons, List.all_nil, List.nil_append, List.append_nil, List.take_nil, List.range_zero, List.length_nil, List.length_cons, List.find?_cons, List.find?_nil, dun, List.getElem?_nil, List.take_zero, List.drop_zero, List.drop_succ_cons, dcells, Nat.zero_add, Nat.reduceAdd, stepBox, and_self, ge_iff_le, gt_iff_lt, dStrBin, plainR_s, Int.reduceLT, Int.reduceBNe, bd26, dNilEq, isLit, ty4, ty26, dp26, zr26, len39, frz11b]
    | (refine drW_intro (by kernel_rfl) ?_)
    | (refine gw_intro (fun h => ?_) (fun h => ?_) <;> (try simp only [beq_true, beq_false, Bool.not_eq_eq_eq_not, Bool.not_true, Bool.not_false, Bool.not_not, decide_eq_true_eq, decide_eq_false_iff_not, ge_iff_le, gt_iff_lt] at h)))
set_option maxHeartbeats 16000000 in
theorem tells_no (ns : List Nd) (n : Int) (sp nm : List UInt8) (hS : SmallD ns) (hi : inB' ns n = true) (he : elB ns n = false) : callL Tryd.prog (ext11b chk) 21 [treeN ns, .list (ns.map Nd.d), .int .i64 n, .str sp, .str nm] [] = some (.bool true, [.no], []) := by
  have h36 := node36_L (chk := chk) ns n hS
  have h37 := rrow_L (chk := chk) ns n hS.1
  have h13 := parent_L (chk := chk) ns n
  have h15 := ahead_L (chk := chk) ns n hS.1
  have h14 := row_L (chk := chk) ns n hS.1
  have h10 := relem_L (chk := chk) ns n
  have hrl := rowI_len ns n
  have h16 := usame_L (chk := chk) (rowI ns n) (rowI ns n) (by have := hS.1; omega) (by have := hS.1; omega)
  rw [decide_eq_true rfl] at h16
  have h38 := val38_L (chk := chk) ns n sp nm hS
  have h39 := rval39_L (chk := chk) ns n sp nm hS
  have h40 := sta40_L (chk := chk) ns n nm hS
  have h41 := rsta41_L (chk := chk) ns n nm hS
  obtain ⟨M, P, ht⟩ := treeN_E ns
  rw [ht] at h36 h13 h15 h14 h38 h40 ⊢
  generalize D.agg [.list (ns.map Nd.d), .list ((elL ns ns.length).map (.int .i64)), M, P] = TR at *
  have lN := lenM ns Nd.d
  have e1 : ((valI ns n sp nm).1 == (valI ns n sp nm).1) = true := by simp
  have e2 : ((valI ns n sp nm).2 == (valI ns n sp nm).2) = true := by simp
  have e3 : (staI ns n nm == staI ns n nm) = true := by simp
  generalize (valI ns n sp nm).1 = V1 at *
  generalize (valI ns n sp nm).2 = V2 at *
  generalize staI ns n nm = V3 at *
  have a3 := lenM (rowI ns n) (D.int .i64)
  obtain ⟨q1, q2, q3⟩ := not_el he
  rw [he] at h10 h14
  rw [q1] at h13
  rw [q2] at h15
  rw [q3] at h37 h14 h16 a3
  have a4 : ((([] : List Int).map (D.int .i64)).length : Int) = 0 := rfl
  generalize ([] : List Int).map (D.int .i64) = ZZ at *
  have hrr : roomOf [] = .full := rfl
  rw [hrr] at h37
  obtain ⟨i, rfl, hin⟩ : ∃ i : Nat, n = (i : Int) ∧ i < ns.length := by
    unfold inB' at hi
    rw [Bool.and_eq_true, decide_eq_true_eq, decide_eq_true_eq] at hi
    exact ⟨n.toNat, by omega, by omega⟩
  obtain ⟨x, hx⟩ := some_at hin
  have hz : nodeI ns i = x := by unfold nodeI; rw [hi, if_pos rfl, Int.toNat_natCast]; simp [List.getD, hx]
  rw [hz, hi] at h36
  have hsx := hS.2 x (List.mem_of_getElem? hx)
  have h35 := rnode_L (chk := chk) x x ⟨hsx.1, hsx.2.1⟩ ⟨hsx.1, hsx.2.1⟩
  rw [decide_eq_true rfl] at h35
  have ha := getD_map (f := Nd.d) hx
  rw [ndat] at ha h35 h36
  have c1 : (i : Int) < ns.length := by omega
  clear hS he q1 q2 q3 hz ht hrl a3 hrr hi hx hsx hin
  generalize x.at_.map At.d = LA at *
  generalize x.st.map D.str = LS at *
  generalize x.sp = xsp at *
  generalize x.nm = xnm at *
  generalize x.tx = xtx at *
  generalize x.p = xp at *
  generalize x.k = xk at *
  generalize ns.map Nd.d = NS at *
  refine callK (m := 175) (res := [10]) (rs := [.tmp 10]) rfl Tryd.func21 rfl rfl rfl rfl rfl ?_
  repeat' (first
    | simp only [*, go_seq, go_cond, go_skip, go_retc, go_region, go_draw, go_ops_nil, go_ops, go_dops1, go_dops, okG_some, okB_some, gwD_bool, cwD_bool, gw_true, gw_false, guardG, opG, opD, isPtr, isStore, inB, sval, stake, eats, eaters, get, cval, cval1, croom, St.taken, put_slot, put_room, put_box, put_ctr, put_none, dem_none, dem_slot, dem_box, dem_ctr, dem_room, dem_room1, setBox_slot, setBox_room, setBox_box, entry_slot, entry_room, entry_box, entry_ctr, endQ, endR, endV, rvars, rvar, room1, ↓reduceIte, Nat.reduceEqDiff, Nat.reduceLT, Nat.reduceLeDiff, reduceCtorEq, decide_true, decide_false, List.filterMap_cons, List.filterMap_nil, Option.bind_some, Option.map_some, Option.bind_none, List.getElem?_cons_zero, List.getElem?_cons_succ, List.getD_cons_zero, List.getD_cons_succ, List.contains_cons, List.contains_nil, List.map_cons, List.map_nil, beq_self_eq_true, beq_iff_eq, Bool.or_false, Bool.or_true, Bool.and_true, Nat.reduceBEq, Bool.false_eq_true, dbin, dIntBin, okR, callG, row11, frz11, frzOf_def, frz_nil, isLocal, allocKey, isAlloc, loadsOwn, beq_true, Bool.not_true, pureB, leaf, leafN, List.all_cons, List.all_nil, List.nil_append, List.append_nil, List.take_nil, List.range_zero, List.length_nil, List.length_cons, List.find?_cons, List.find?_nil, dun, List.getElem?_nil, List.take_zero, List.drop_zero, List.drop_succ_cons, dcells, Nat.zero_add, Nat.reduceAdd, stepBox, Int.natCast_nonneg, Int.toNat_natCast, and_self, ge_iff_le, gt_iff_lt, dStrBin, plainR_s, Int.reduceLT, Int.reduceBNe, dNilEq, isLit, ty4, ty26, dp26, zr26, ia22, len22, len39, frz11b]
    | (refine drW_intro (by kernel_rfl) ?_)
    | (refine gw_intro (fun h => ?_) (fun h => ?_) <;> (try simp only [beq_true, beq_false, Bool.not_eq_eq_eq_not, Bool.not_true, Bool.not_false, Bool.not_not, decide_eq_true_eq, decide_eq_false_iff_not, ge_iff_le, gt_iff_lt] at h)))
set_option maxHeartbeats 32000000 in
theorem tells_el (ns : List Nd) (n : Int) (sp nm : List UInt8) (hS : SmallD ns) (hi : inB' ns n = true) (he : elB ns n = true) : callL Tryd.prog (ext11b chk) 21 [treeN ns, .list (ns.map Nd.d), .int .i64 n, .str sp, .str nm] [] = some (.bool true, [.no], []) := by
  have h36 := node36_L (chk := chk) ns n hS
  have h37 := rrow_L (chk := chk) ns n hS.1
  have h13 := parent_L (chk := chk) ns n
  have h15 := ahead_L (chk := chk) ns n hS.1
  have h14 := row_L (chk := chk) ns n hS.1
  have h10 := relem_L (chk := chk) ns n
  have hrl := rowI_len ns n
  have h16 := usame_L (chk := chk) (rowI ns n) (rowI ns n) (by have := hS.1; omega) (by have := hS.1; omega)
  rw [decide_eq_true rfl] at h16
  have h38 := val38_L (chk := chk) ns n sp nm hS
  have h39 := rval39_L (chk := chk) ns n sp nm hS
  have h40 := sta40_L (chk := chk) ns n nm hS
  have h41 := rsta41_L (chk := chk) ns n nm hS
  obtain ⟨M, P, ht⟩ := treeN_E ns
  rw [ht] at h36 h13 h15 h14 h38 h40 ⊢
  generalize D.agg [.list (ns.map Nd.d), .list ((elL ns ns.length).map (.int .i64)), M, P] = TR at *
  have lN := lenM ns Nd.d
  have e1 : ((valI ns n sp nm).1 == (valI ns n sp nm).1) = true := by simp
  have e2 : ((valI ns n sp nm).2 == (valI ns n sp nm).2) = true := by simp
  have e3 : (staI ns n nm == staI ns n nm) = true := by simp
  generalize (valI ns n sp nm).1 = V1 at *
  generalize (valI ns n sp nm).2 = V2 at *
  generalize staI ns n nm = V3 at *
  have a3 := lenM (rowI ns n) (D.int .i64)
  obtain ⟨i, rfl, hin⟩ : ∃ i : Nat, n = (i : Int) ∧ i < ns.length := by
    unfold inB' at hi
    rw [Bool.and_eq_true, decide_eq_true_eq, decide_eq_true_eq] at hi
    exact ⟨n.toNat, by omega, by omega⟩
  obtain ⟨x, hx⟩ := some_at hin
  have hz : nodeI ns i = x := by unfold nodeI; rw [hi, if_pos rfl, Int.toNat_natCast]; simp [List.getD, hx]
  rw [hz, hi] at h36
  have hsx := hS.2 x (List.mem_of_getElem? hx)
  have h35 := rnode_L (chk := chk) x x ⟨hsx.1, hsx.2.1⟩ ⟨hsx.1, hsx.2.1⟩
  rw [decide_eq_true rfl] at h35
  have ha := getD_map (f := Nd.d) hx
  rw [ndat] at ha h35 h36
  have c1 : (i : Int) < ns.length := by omega
  rw [he] at h10 h14
  have hkp : kAt ns i = x.k ∧ pAt ns i = x.p := by unfold kAt pAt; rw [hx]; exact ⟨rfl, rfl⟩
  have hk1 : kAt ns i = 1 := by
    unfold elB at he
    rw [Int.toNat_natCast] at he
    simp only [Bool.and_eq_true, beq_iff_eq] at he
    exact he.2.2
  have r1 : rowI ns i = rowL ns x.p i ++ [(i : Int)] := by
    unfold rowI
    rw [if_pos he, Int.toNat_natCast, rowL_succ hk1, hkp.2]
  have r2 : ahdI ns i = (match (rowL ns x.p i).getLast? with | some a => (a, true) | none => (0, false)) := by
    unfold ahdI
    rw [if_pos he, Int.toNat_natCast, hkp.2]
    cases (rowL ns x.p i).getLast? <;> rfl
  have r3 : parI ns i = if 0 ≤ x.p then (x.p, true) else (0, false) := by
    unfold parI
    rw [Int.toNat_natCast, hkp.2]
    by_cases c : 0 ≤ x.p
    · rw [if_pos ⟨he, c⟩, if_pos c]
    · rw [if_neg (fun h => c h.2), if_neg c]
  have hb := hS.1
  have tz := rowL_len (ns := ns) (key := x.p) (m := i)
  rw [r2] at h15
  rw [r3] at h13
  have n0 : (x.p != x.p) = false := by simp
  have m0 : ((0 : Int) != 0) = false := rfl
  rcases List.eq_nil_or_concat (rowL ns x.p i) with hZ | ⟨Y, a, hZ⟩
  · rw [hZ] at h15 r1
    simp only [List.getLast?_nil] at h15
    rw [r1] at h37 h14 h16
    have a4 : ((([] ++ [(i : Int)]).map (D.int .i64)).length : Int) = 1 := rfl
    generalize ([] ++ [(i : Int)]).map (D.int .i64) = ZZ at *
    generalize roomOf ([] ++ [(i : Int)]) = rr at *
    clear hS he hz ht hrl a3 hi hx hsx hin hkp hk1 r1 r2 r3 hZ tz hb
    generalize x.at_.map At.d = LA at *
    generalize x.st.map D.str = LS at *
    generalize x.sp = xsp at *
    generalize x.nm = xnm at *
    generalize x.tx = xtx at *
    generalize x.p = xp at *
    generalize x.k = xk at *
    generalize ns.map Nd.d = NS at *
    by_cases c : 0 ≤ xp
    · rw [if_pos c] at h13
      refine callK (m := 175) (res := [10]) (rs := [.tmp 10]) rfl Tryd.func21 rfl rfl rfl rfl rfl ?_
      repeat' (first
    | simp only [*, go_seq, go_cond, go_skip, go_retc, go_region, go_draw, go_ops_nil, go_ops, go_dops1, go_dops, okG_some, okB_some, gwD_bool, cwD_bool, gw_true, gw_false, guardG, opG, opD, isPtr, isStore, inB, sval, stake, eats, eaters, get, cval, cval1, croom, St.taken, put_slot, put_room, put_box, put_ctr, put_none, dem_none, dem_slot, dem_box, dem_ctr, dem_room, dem_room1, setBox_slot, setBox_room, setBox_box, entry_slot, entry_room, entry_box, entry_ctr, endQ, endR, endV, rvars, rvar, room1, ↓reduceIte, Nat.reduceEqDiff, Nat.reduceLT, Nat.reduceLeDiff, reduceCtorEq, decide_true, decide_false, List.filterMap_cons, List.filterMap_nil, Option.bind_some, Option.map_some, Option.bind_none, List.getElem?_cons_zero, List.getElem?_cons_succ, List.getD_cons_zero, List.getD_cons_succ, List.contains_cons, List.contains_nil, List.map_cons, List.map_nil, beq_self_eq_true, beq_iff_eq, Bool.or_false, Bool.or_true, Bool.and_true, Nat.reduceBEq, Bool.false_eq_true, dbin, dIntBin, okR, callG, row11, frz11, frzOf_def, frz_nil, isLocal, allocKey, isAlloc, loadsOwn, beq_true, Bool.not_true, pureB, leaf, leafN, List.all_cons, List.all_nil, List.nil_append, List.append_nil, List.take_nil, List.range_zero, List.length_nil, List.length_cons, List.find?_cons, List.find?_nil, dun, List.getElem?_nil, List.take_zero, List.drop_zero, List.drop_succ_cons, dcells, Nat.zero_add, Nat.reduceAdd, stepBox, Int.natCast_nonneg, Int.toNat_natCast, and_self, Nat.add_zero, ge_iff_le, gt_iff_lt, dStrBin, plainR_s, Int.reduceLT, dNilEq, isLit, dp3, ty4, ty26, dp26, fa26_0, zr26, ia22, len22, len39, frz11b]
    | (refine drW_intro (by kernel_rfl) ?_)
    | (refine gw_intro (fun h => ?_) (fun h => ?_) <;> (try simp only [beq_true, beq_false, Bool.not_eq_eq_eq_not, Bool.not_true, Bool.not_false, Bool.not_not, decide_eq_true_eq, decide_eq_false_iff_not, ge_iff_le, gt_iff_lt] at h)))
    · rw [if_neg c] at h13
      refine callK (m := 175) (res := [10]) (rs := [.tmp 10]) rfl Tryd.func21 rfl rfl rfl rfl rfl ?_
      repeat' (first
    | simp only [*, go_seq, go_cond, go_skip, go_retc, go_region, go_draw, go_ops_nil, go_ops, go_dops1, go_dops, okG_some, okB_some, gwD_bool, cwD_bool, gw_true, gw_false, guardG, opG, opD, isPtr, isStore, inB, sval, stake, eats, eaters, get, cval, cval1, croom, St.taken, put_slot, put_room, put_box, put_ctr, put_none, dem_none, dem_slot, dem_box, dem_ctr, dem_room, dem_room1, setBox_slot, setBox_room, setBox_box, entry_slot, entry_room, entry_box, entry_ctr, endQ, endR, endV, rvars, rvar, room1, ↓reduceIte, Nat.reduceEqDiff, Nat.reduceLT, Nat.reduceLeDiff, reduceCtorEq, decide_true, decide_false, List.filterMap_cons, List.filterMap_nil, Option.bind_some, Option.map_some, Option.bind_none, List.getElem?_cons_zero, List.getElem?_cons_succ, List.getD_cons_zero, List.getD_cons_succ, List.contains_cons, List.contains_nil, List.map_cons, List.map_nil, beq_self_eq_true, beq_iff_eq, Bool.or_false, Bool.or_true, Bool.and_true, Nat.reduceBEq, Bool.false_eq_true, dbin, dIntBin, okR, callG, row11, frz11, frzOf_def, frz_nil, isLocal, allocKey, isAlloc, loadsOwn, beq_true, Bool.not_true, pureB, leaf, leafN, List.all_cons, List.all_nil, List.nil_append, List.append_nil, List.take_nil, List.range_zero, List.length_nil, List.length_cons, List.find?_cons, List.find?_nil, dun, List.getElem?_nil, List.take_zero, List.drop_zero, List.drop_succ_cons, dcells, Nat.zero_add, Nat.reduceAdd, stepBox, Int.natCast_nonneg, Int.toNat_natCast, and_self, Nat.add_zero, ge_iff_le, gt_iff_lt, dStrBin, plainR_s, Int.reduceLT, dNilEq, isLit, dp3, ty4, ty26, dp26, fa26_0, zr26, ia22, len22, len39, frz11b]
    | (refine drW_intro (by kernel_rfl) ?_)
    | (refine gw_intro (fun h => ?_) (fun h => ?_) <;> (try simp only [beq_true, beq_false, Bool.not_eq_eq_eq_not, Bool.not_true, Bool.not_false, Bool.not_not, decide_eq_true_eq, decide_eq_false_iff_not, ge_iff_le, gt_iff_lt] at h)))
  · rw [List.concat_eq_append] at hZ
    rw [hZ, List.getLast?_concat] at h15
    rw [hZ] at r1
    rw [r1] at h37 h14 h16
    have tl : (rowL ns x.p i).length = Y.length + 1 := by rw [hZ]; simp
    have a4 : ((Y ++ [a] ++ [(i : Int)]).map (D.int .i64)).length = Y.length + 2 := by simp
    have a5 : ((Y ++ [a] ++ [(i : Int)]).map (D.int .i64)).getD Y.length .bad = .int .i64 a := by simp [List.getD]
    generalize hm3 : Y.length = m3 at *
    have w2 : IntKind.i64.wrap (((m3 + 2 : Nat) : Int) - 2) = (m3 : Int) := by rw [wrap64 _ (by omega) (by omega)]; omega
    have b2 : (1 : Int) < ((m3 + 2 : Nat) : Int) := by omega
    have b4 : (m3 : Int) < ((m3 + 2 : Nat) : Int) := by omega
    have n1 : (a != a) = false := by simp
    generalize (Y ++ [a] ++ [(i : Int)]).map (D.int .i64) = ZZ at *
    generalize roomOf (Y ++ [a] ++ [(i : Int)]) = rr at *
    clear hS he hz ht hrl a3 hi hx hsx hin hkp hk1 r1 r2 r3 hZ tz hb tl hm3
    generalize x.at_.map At.d = LA at *
    generalize x.st.map D.str = LS at *
    generalize x.sp = xsp at *
    generalize x.nm = xnm at *
    generalize x.tx = xtx at *
    generalize x.p = xp at *
    generalize x.k = xk at *
    generalize ns.map Nd.d = NS at *
    by_cases c : 0 ≤ xp
    · rw [if_pos c] at h13
      refine callK (m := 175) (res := [10]) (rs := [.tmp 10]) rfl Tryd.func21 rfl rfl rfl rfl rfl ?_
      repeat' (first
    | simp only [*, go_seq, go_cond, go_skip, go_retc, go_region, go_draw, go_ops_nil, go_ops, go_dops1, go_dops, okG_some, okB_some, gwD_bool, cwD_bool, gw_true, gw_false, guardG, opG, opD, isPtr, isStore, inB, sval, stake, eats, eaters, get, cval, cval1, croom, St.taken, put_slot, put_room, put_box, put_ctr, put_none, dem_none, dem_slot, dem_box, dem_ctr, dem_room, dem_room1, setBox_slot, setBox_room, setBox_box, entry_slot, entry_room, entry_box, entry_ctr, endQ, endR, endV, rvars, rvar, room1, ↓reduceIte, Nat.reduceEqDiff, Nat.reduceLT, Nat.reduceLeDiff, reduceCtorEq, decide_true, List.filterMap_cons, List.filterMap_nil, Option.bind_some, Option.map_some, Option.bind_none, List.getElem?_cons_zero, List.getElem?_cons_succ, List.getD_cons_zero, List.getD_cons_succ, List.contains_cons, List.contains_nil, List.map_cons, List.map_nil, beq_self_eq_true, beq_iff_eq, Bool.or_false, Bool.or_true, Bool.and_true, Nat.reduceBEq, Bool.false_eq_true, dbin, dIntBin, okR, callG, row11, frz11, frzOf_def, frz_nil, isLocal, allocKey, isAlloc, loadsOwn, beq_true, Bool.not_true, pureB, leaf, leafN, List.all_cons, List.all_nil, List.nil_append, List.append_nil, List.take_nil, List.range_zero, List.length_nil, List.length_cons, List.find?_cons, List.find?_nil, dun, List.getElem?_nil, List.take_zero, List.drop_zero, List.drop_succ_cons, dcells, Nat.zero_add, Nat.reduceAdd, stepBox, Int.natCast_nonneg, Int.toNat_natCast, and_self, Nat.add_zero, ge_iff_le, gt_iff_lt, dStrBin, plainR_s, dNilEq, isLit, dp3, ty4, ty26, dp26, fa26_0, zr26, ia22, len22, ia39, len39, frz11b]
    | (refine drW_intro (by kernel_rfl) ?_)
    | (refine gw_intro (fun h => ?_) (fun h => ?_) <;> (try simp only [beq_true, beq_false, Bool.not_eq_eq_eq_not, Bool.not_true, Bool.not_false, Bool.not_not, decide_eq_true_eq, decide_eq_false_iff_not, ge_iff_le, gt_iff_lt] at h)))
    · rw [if_neg c] at h13
      refine callK (m := 175) (res := [10]) (rs := [.tmp 10]) rfl Tryd.func21 rfl rfl rfl rfl rfl ?_
      repeat' (first
    | simp only [*, go_seq, go_cond, go_skip, go_retc, go_region, go_draw, go_ops_nil, go_ops, go_dops1, go_dops, okG_some, okB_some, gwD_bool, cwD_bool, gw_true, gw_false, guardG, opG, opD, isPtr, isStore, inB, sval, stake, eats, eaters, get, cval, cval1, croom, St.taken, put_slot, put_room, put_box, put_ctr, put_none, dem_none, dem_slot, dem_box, dem_ctr, dem_room, dem_room1, setBox_slot, setBox_room, setBox_box, entry_slot, entry_room, entry_box, entry_ctr, endQ, endR, endV, rvars, rvar, room1, ↓reduceIte, Nat.reduceEqDiff, Nat.reduceLT, Nat.reduceLeDiff, reduceCtorEq, decide_true, decide_false, List.filterMap_cons, List.filterMap_nil, Option.bind_some, Option.map_some, Option.bind_none, List.getElem?_cons_zero, List.getElem?_cons_succ, List.getD_cons_zero, List.getD_cons_succ, List.contains_cons, List.contains_nil, List.map_cons, List.map_nil, beq_self_eq_true, beq_iff_eq, Bool.or_false, Bool.or_true, Bool.and_true, Nat.reduceBEq, Bool.false_eq_true, dbin, dIntBin, okR, callG, row11, frz11, frzOf_def, frz_nil, isLocal, allocKey, isAlloc, loadsOwn, beq_true, Bool.not_true, pureB, leaf, leafN, List.all_cons, List.all_nil, List.nil_append, List.append_nil, List.take_nil, List.range_zero, List.length_nil, List.length_cons, List.find?_cons, List.find?_nil, dun, List.getElem?_nil, List.take_zero, List.drop_zero, List.drop_succ_cons, dcells, Nat.zero_add, Nat.reduceAdd, stepBox, Int.natCast_nonneg, Int.toNat_natCast, and_self, Nat.add_zero, ge_iff_le, gt_iff_lt, dStrBin, plainR_s, dNilEq, isLit, dp3, ty4, ty26, dp26, fa26_0, zr26, ia22, len22, ia39, len39, frz11b]
    | (refine drW_intro (by kernel_rfl) ?_)
    | (refine gw_intro (fun h => ?_) (fun h => ?_) <;> (try simp only [beq_true, beq_false, Bool.not_eq_eq_eq_not, Bool.not_true, Bool.not_false, Bool.not_not, decide_eq_true_eq, decide_eq_false_iff_not, ge_iff_le, gt_iff_lt] at h)))
theorem tells_L (ns : List Nd) (n : Int) (sp nm : List UInt8) (hS : SmallD ns) : callL Tryd.prog (ext11b chk) 21 [treeN ns, .list (ns.map Nd.d), .int .i64 n, .str sp, .str nm] [] = some (.bool true, [.no], []) := by
  cases hi : inB' ns n with
  | false => exact tells_out ns n sp nm hS hi
  | true => cases he : elB ns n with
    | false => exact tells_no ns n sp nm hS hi he
    | true => exact tells_el ns n sp nm hS hi he
end Go.Av
/- Chapter 11: the law's copied once more: what it hands back lies in new memory, in rows of its own. Conditions: its list is read; no pointer lies in the nodes' lists. -/
set_option linter.unusedVariables false
set_option linter.unusedSimpArgs false
set_option maxRecDepth 100000
namespace Go.Av
open Go.Proofs Go.RowKit Go.Proofs.YtdbimjpjpgfeeaaDoor
/-- A slice whose row is a block from a place on, up to another one, which may be written to. -/
def OwnV (w : World) (lo hi sz : Nat) (v : Value) : Prop := ∃ a l c, v = .slice a l c ∧ (l ≤ c ∧ l ≤ 1000000) ∧ (l = 0 ∨ ∃ b cs t, a = some ⟨b, 0, none⟩ ∧ lo ≤ b ∧ b < hi ∧ w.heap[b]? = some (.cells cs t (0, 0)) ∧ l * sz ≤ cs.size)
theorem OwnV.ge {w W : World} {lo hi hi' sz : Nat} {v : Value} (h : OwnV w lo hi sz v) (hb : Ge w W) (hh : hi ≤ hi') : OwnV W lo hi' sz v := by
  obtain ⟨a, l, c, rfl, hc, h | ⟨b, cs, t, h1, h2, h2', h3, h4⟩⟩ := h
  · exact ⟨a, l, c, rfl, hc, .inl h⟩
  · exact ⟨a, l, c, rfl, hc, .inr ⟨b, cs, t, h1, h2, Nat.lt_of_lt_of_le h2' hh, (hb.block b (Array.getElem?_eq_some_iff.1 h3).1).trans h3, h4⟩⟩
theorem OwnV.put {w : World} {lo hi sz pb po : Nat} {v u : Value} (h : OwnV w lo hi sz v) : OwnV (w.setCell ⟨pb, po, none⟩ u) lo hi sz v := by
  obtain ⟨a, l, c, rfl, hc, h | ⟨b, cs, t, h1, h2, h2', h3, h4⟩⟩ := h
  · exact ⟨a, l, c, rfl, hc, .inl h⟩
  · by_cases e : b = pb
    · subst e
      exact ⟨a, l, c, rfl, hc, .inr ⟨b, cs.setIfInBounds po u, t, h1, h2, h2', heap_setCell_same w b po cs t u h3, by simpa using h4⟩⟩
    · exact ⟨a, l, c, rfl, hc, .inr ⟨b, cs, t, h1, h2, h2', (Below.heap_setCell w ⟨pb, po, none⟩ u b e).trans h3, h4⟩⟩
theorem OwnV.of {w : World} {base e sz n : Nat} {v : Value} {xs : List Value} {A : Option Addr} {c : Nat} (h : OwnR w base e sz v n xs) (hv : v = .slice A n c) (hc : n ≤ c) (hn : n ≤ 1000000) : OwnV w base w.heap.size sz v := by
  rcases h with ⟨h0, _, _⟩ | ⟨_, ⟨_, h0⟩ | ⟨g, cap, cur, hv', hg, hh, hcp, hm, hcs, ht⟩⟩
  · exact ⟨A, n, c, hv, ⟨hc, hn⟩, .inl h0⟩
  · exact ⟨A, n, c, hv, ⟨hc, hn⟩, .inl h0⟩
  · exact ⟨_, n, cap, hv', ⟨hcp, hn⟩, .inr ⟨g, cur, e, rfl, hg, (Array.getElem?_eq_some_iff.1 hh).1, hh, by rw [hcs]; exact Nat.mul_le_mul_right _ hcp⟩⟩
/-- What is good of a cell: it reads by new memory; a list lies in a row of its own. -/
def GoodC (G : Nat → Nat → Prop) (g m : Nat) (wr : World) (v : Value) (x : D) : Prop := Den0 (nx G (g + 1) wr) wr v x ∧ (noPtr x = true ∨ OwnV wr (g + 1) wr.heap.size (if m % 7 = 4 then 3 else 1) v)
def RowK (F G : Nat → Nat → Prop) (es : List D) (g : Nat) (dn : Nat → Prop) (wr : World) : Prop :=
  ∃ cur : Array Value, wr.heap[g]? = some (.cells cur 26 (0, 0)) ∧ ∀ (m : Nat) (x : D), (flat es)[m]? = some x → ∃ v : Value, cur[m]? = some v ∧ v.oneCell' = true ∧ (dn m → GoodC G g m wr v x) ∧ (¬ dn m → Den0 (nx F (g + 1) wr) wr v x)
theorem nx_ge {F : Nat → Nat → Prop} {w wr W : World} {m : Nat} {v : Value} {x : D} (h : Den0 (nx F m wr) wr v x) (hlt : Lt F w) (hw : w.heap.size ≤ wr.heap.size) (hb : Ge wr W) : Den0 (nx F m W) W v x := by
  refine h.ext (S := fun _ => False) ⟨hb.os, hb.tape, hb.output, hb.size, fun b h _ => hb.block b h, fun b o h => h.imp id fun h => ⟨h.1, Nat.lt_of_lt_of_le h.2 hb.size⟩, fun b o h => ?_, fun b es c hf hm => ?_⟩
  · have hb1 : b < wr.heap.size := h.elim (fun h => Nat.lt_of_lt_of_le (hlt b o h) hw) fun h => h.2
    unfold World.cell?
    rw [hb.block b hb1]
  · have hb1 : b < wr.heap.size := hf.elim (fun h => Nat.lt_of_lt_of_le (hlt b 0 h) hw) fun h => h.2
    exact (hb.block b hb1).trans hm
theorem RowK.ge {F G : Nat → Nat → Prop} {es : List D} {g : Nat} {dn : Nat → Prop} {w wr W : World} (h : RowK F G es g dn wr) (hlt : Lt F w) (hltG : Lt G w) (hw : w.heap.size ≤ wr.heap.size) (hb : Ge wr W) : RowK F G es g dn W := by
  obtain ⟨cur, h1, h2⟩ := h
  refine ⟨cur, (hb.block g (Array.getElem?_eq_some_iff.1 h1).1).trans h1, fun m x hx => ?_⟩
  obtain ⟨v, h3, h4, h5, h6⟩ := h2 m x hx
  exact ⟨v, h3, h4, fun hd => ⟨nx_ge (h5 hd).1 hltG hw hb, (h5 hd).2.imp id fun h => h.ge hb hb.size⟩, fun hd => nx_ge (h6 hd) hlt hw hb⟩
theorem RowK.put {F G : Nat → Nat → Prop} {es : List D} {g m : Nat} {dn : Nat → Prop} {w wr : World} {v : Value} {x : D} (h : RowK F G es g dn wr) (hlt : Lt F w) (hltG : Lt G w) (hw : w.heap.size ≤ wr.heap.size) (hg : w.heap.size ≤ g) (hx : (flat es)[m]? = some x) (h1 : v.oneCell' = true) (hv : GoodC G g m wr v x) :
    RowK F G es g (fun m' => dn m' ∨ m' = m) (wr.setCell ⟨g, m, none⟩ v) := by
  obtain ⟨cur, h2, h3⟩ := h
  have hG : wr.grownBy (wr.setCell ⟨g, m, none⟩ v) (some g) := grown_put (grown_refl wr _) rfl v
  have keep : ∀ {F u y}, Lt F w → Den0 (nx F (g + 1) wr) wr u y → Den0 (nx F (g + 1) (wr.setCell ⟨g, m, none⟩ v)) (wr.setCell ⟨g, m, none⟩ v) u y := fun hlt hu => nx_keep hu hlt hw hg (Nat.lt_succ_self g) (Nat.le_refl _) hG
  have keepG : ∀ {u y m'}, GoodC G g m' wr u y → GoodC G g m' (wr.setCell ⟨g, m, none⟩ v) u y := fun hu => ⟨keep hltG hu.1, hu.2.imp id fun h => by simpa using h.put⟩
  refine ⟨cur.setIfInBounds m v, heap_setCell_same wr g m cur 26 v h2, fun m' x' hx' => ?_⟩
  obtain ⟨u, h4, h5, h6, h7⟩ := h3 m' x' hx'
  by_cases hm : m' = m
  · subst hm
    rw [hx] at hx'
    obtain rfl := Option.some.inj hx'
    have hlt' := (Array.getElem?_eq_some_iff.1 h4).1
    exact ⟨v, by simp [hlt'], h1, fun _ => keepG hv, fun hd => absurd (.inr rfl) hd⟩
  · exact ⟨u, by rw [Array.getElem?_setIfInBounds_ne (fun e => hm e.symm)]; exact h4, h5, fun hd => keepG (h6 (hd.resolve_right hm)), fun hd => keep hlt (h7 fun h => hd (.inl h))⟩
theorem RowK.cell {F G : Nat → Nat → Prop} {es : List D} {g : Nat} {dn : Nat → Prop} {wr : World} (h : RowK F G es g dn wr) {m : Nat} {x : D} (hx : (flat es)[m]? = some x) : ∃ v, wr.cell? ⟨g, m, none⟩ = some v ∧ v.oneCell' = true ∧ True ∧ wr.frozen? ⟨g, m, none⟩ = false := by
  obtain ⟨cur, h1, h2⟩ := h
  obtain ⟨v, h3, h4, _⟩ := h2 m x hx
  exact ⟨v, by rw [cell_of_row wr g m cur 26 (0, 0) h1]; exact h3, h4, trivial, frozen_of_row wr g m cur 26 h1⟩
theorem RowK.mono {F G : Nat → Nat → Prop} {es : List D} {g : Nat} {dn dn' : Nat → Prop} {wr : World} (h : RowK F G es g dn wr) (hd : ∀ m x, (flat es)[m]? = some x → (dn m ↔ dn' m)) : RowK F G es g dn' wr := by
  obtain ⟨cur, h1, h2⟩ := h
  refine ⟨cur, h1, fun m x hx => ?_⟩
  obtain ⟨v, h3, h4, h5, h6⟩ := h2 m x hx
  exact ⟨v, h3, h4, fun h => h5 ((hd m x hx).2 h), fun h => h6 fun h' => h ((hd m x hx).1 h')⟩
/-- Cells that are done: those without memory of their own, and those of the first nodes. -/
def dnk (es : List D) (k m : Nat) : Prop := (∃ x, (flat es)[m]? = some x ∧ noPtr x = true) ∨ m < k * 7
theorem dnk_succ {es : List D} (hs : ∀ e ∈ es, isNode e = true) {k : Nat} (hk : k < es.length) (m : Nat) (x : D) (hx : (flat es)[m]? = some x) : ((dnk es k m ∨ m = k * 7 + 4) ∨ m = k * 7 + 5) ↔ dnk es (k + 1) m := by
  constructor
  · rintro ((h | h) | rfl)
    · exact h.imp id fun h => by omega
    · exact .inr (by omega)
    · exact .inr (by omega)
  · intro h
    by_cases h1 : m < k * 7
    · exact .inl (.inl (.inr h1))
    · by_cases h2 : m < (k + 1) * 7
      · have hei : es[k]? = some es[k] := List.getElem?_eq_getElem hk
        obtain ⟨p, kk, sp, nm, la, ls, tx, he, _⟩ := isNode_inv (hs es[k] (List.getElem_mem hk))
        rw [he] at hei
        have key : ∀ j, j < 7 → m = k * 7 + j → (flat es)[m]? = (dcells (.agg [.int .i64 p, .int .i64 kk, .str sp, .str nm, .list la, .list ls, .str tx]))[j]? := fun j hj e => by rw [e]; exact flat_at (isNode_len hs) hei j hj
        have hj : m = k * 7 + (m - k * 7) := by omega
        have hj7 : m - k * 7 < 7 := by omega
        generalize m - k * 7 = j at hj hj7
        have hc := key j hj7 hj
        rw [hx] at hc
        match j with
        | 0 => exact .inl (.inl (.inl ⟨x, hx, by simp [dcells] at hc; subst hc; rfl⟩))
        | 1 => exact .inl (.inl (.inl ⟨x, hx, by simp [dcells] at hc; subst hc; rfl⟩))
        | 2 => exact .inl (.inl (.inl ⟨x, hx, by simp [dcells] at hc; subst hc; rfl⟩))
        | 3 => exact .inl (.inl (.inl ⟨x, hx, by simp [dcells] at hc; subst hc; rfl⟩))
        | 4 => exact .inl (.inr hj)
        | 5 => exact .inr hj
        | 6 => exact .inl (.inl (.inl ⟨x, hx, by simp [dcells] at hc; subst hc; rfl⟩))
        | j + 7 => omega
      · exact .inl (.inl (h.imp id fun h => by omega))
structure LK (F G : Nat → Nat → Prop) (es : List D) (w : World) (n : Nat) (A : Option Addr) (k : Nat) (wr : World) : Prop where
  le : k ≤ n
  ge : Ge w wr
  row : n ≠ 0 → ∃ g, A = some ⟨g, 0, none⟩ ∧ w.heap.size ≤ g ∧ RowK F G es g (dnk es k) wr
/-- No pointer lies in the nodes' lists. -/
def PlainN (es : List D) : Prop := ∀ p k sp nm la ls tx, D.agg [.int .i64 p, .int .i64 k, .str sp, .str nm, .list la, .list ls, .str tx] ∈ es → (∀ x ∈ flat la, noPtr x = true) ∧ (∀ x ∈ flat ls, noPtr x = true)
/-- A document in rows of its own. -/
def NewDoc (lo hi n : Nat) (u : Value) (w : World) : Prop := ∃ A C, u = .slice A n C ∧ n ≤ C ∧ (n = 0 ∨ ∃ g cur, A = some ⟨g, 0, none⟩ ∧ lo ≤ g ∧ g < hi ∧ w.heap[g]? = some (.cells cur 26 (0, 0)) ∧ n * 7 ≤ cur.size ∧ ∃ V4 V5 : Nat → Value, ∀ i, i < n → cur[i * 7 + 4]? = some (V4 i) ∧ cur[i * 7 + 5]? = some (V5 i) ∧ OwnV w (g + 1) hi 3 (V4 i) ∧ OwnV w (g + 1) hi 1 (V5 i))
theorem lcopied_new (es : List D) (F G : Nat → Nat → Prop) (w : World) (v : Value) (hlt : Lt F w) (hltG : Lt G w) (hpl : PlainN es) (hd : Den0 F w v (.list es)) (hs : ∀ e ∈ es, isNode e = true) (hL : es.length ≤ 1000000) :
    Calls Tryd.prog 19 #[v] w (fun e w' => ∃ u, e = .returned u ∧ Ge w w' ∧ Den0 (nw G w w') w' u (.list es) ∧ NewDoc w.heap.size w'.heap.size es.length u w') := by
  obtain ⟨a, c, vs, rfl, hc, hvl, hsl, h1, hx⟩ := list_sl hlt hd (isNode_len hs)
  have hs0 := hsl.alloc (Nat.le_refl _) (.cells #[] 26)
  have ho0 : OwnR (w.alloc (.cells #[] 26)) w.heap.size 26 7 (.slice (some ⟨w.heap.size, 0, none⟩) 0 0) 0 [] := .inl ⟨rfl, rfl, _, rfl⟩
  have hfl : (flat es).length = es.length * 7 := flat_len (isNode_len hs)
  obtain ⟨n, HN⟩ : ∃ n, Hid (n = es.length) := ⟨_, rfl⟩
  rw [← HN.out] at hvl hc hfl ⊢
  have hnL : n ≤ 1000000 := by rw [HN.out]; exact hL
  go_enter Tryd.func19, Tryd.ntmps19
  go_wp2_with (at_builtin; refine app_slR _ rfl (.tmp 5) (.tmp 6) 22 rfl ei22 w.heap.size _ 0 [] rfl ho0 w.heap.size a n c vs rfl hs0 hvl h1 (by simp only [maxLen]; omega) (by omega) (by simp) ?_; intro v1 w1 ho1 hg1 hb1; obtain ⟨A1, C1, hv1, hC1⟩ := ownR_form ho1; rw [Nat.zero_add] at hv1 hC1; subst hv1)
  have hb : Ge w w1 := ((Below.refl _ w).alloc (Nat.le_refl _) _).trans hb1
  have HR : LK F G es w n A1 0 w1 := by
    refine ⟨Nat.zero_le _, hb, fun hn0 => ?_⟩
    rcases ho1 with ⟨h, _⟩ | ⟨_, ⟨_, h⟩ | ⟨g, cap, cur, hv, hg, hh, _, _, _, ht⟩⟩
    · omega
    · omega
    · simp only [Value.slice.injEq] at hv
      refine ⟨g, hv.1, hg, cur, hh, fun m x hmx => ?_⟩
      have hm : m < n * 7 := by rw [← hfl]; exact (List.getElem?_eq_some_iff.1 hmx).1
      have hmv : vs[m]? = some vs[m] := List.getElem?_eq_getElem (by omega)
      have hden := den_ge (hx m _ x hmv hmx) hlt hb
      have hcur : cur[m]? = some vs[m] := by
        have : (cur.toList.take ((0 + n) * 7))[m]? = some vs[m] := by rw [ht]; simp
        rw [List.getElem?_take] at this
        split at this
        · simpa using this
        · cases this
      refine ⟨vs[m], hcur, h1 _ (List.mem_of_getElem? hmv), fun hd => ?_, fun _ => hden.grow fun b o h => .inl h⟩
      rcases hd with ⟨y, hy, hp⟩ | hd
      · rw [hmx] at hy
        obtain rfl := Option.some.inj hy
        exact ⟨noPtr_den hp hden, .inl hp⟩
      · omega
  clear ho1 hg1 hb1 hs0 ho0
  go_loopw [10] (fun v wr => ∃ k : Nat, v = .int .i64 k ∧ LK F G es w n A1 k wr) (fun v _ => n - (intOf v).toNat)
  case atStart => exact ⟨0, rfl, HR⟩
  case round =>
    obtain ⟨k, rfl, hle, hG, hrow⟩ := hrel
    by_cases hk : k = n
    · subst hk
      have hG2 := Lib.hid hG
      have hrow2 := Lib.hid hrow
      clear hG hrow
      go_wp2_with fail
      go_ret
      have hG := hG2.out
      have hrow := hrow2.out
      refine ⟨_, rfl, hG, ?_, ?_⟩
      · by_cases h0 : k = 0
        · subst h0
          have he : es = [] := List.eq_nil_of_length_eq_zero HN.out.symm
          subst he
          exact .list _ 0 _ 7 [] [] rfl hC1 (by decide) (by simp) rfl (.inl rfl) (by simp [flat])
        · obtain ⟨g, rfl, hgB, cur, hh, hc2⟩ := hrow h0
          refine .list _ k _ 7 es (cur.toList.take (k * 7)) HN.out.symm hC1 (by decide) (isNode_len hs) ?_ (.inr ⟨g, 0, rfl, fun i v hv => ?_⟩) ?_
          · rw [List.length_take]
            have : k * 7 ≤ cur.toList.length := by
              obtain ⟨v, h3, _⟩ := hc2 (k * 7 - 1) _ (List.getElem?_eq_getElem (by omega : k * 7 - 1 < (flat es).length))
              have := (Array.getElem?_eq_some_iff.1 h3).1
              simp
              omega
            omega
          · rw [List.getElem?_take] at hv
            split at hv
            · rename_i hi
              obtain ⟨v', h3, h4, h5⟩ := hc2 i _ (List.getElem?_eq_getElem (by omega : i < (flat es).length))
              have : v' = v := by
                have : cur.toList[i]? = some v' := by simpa using h3
                rw [this] at hv
                exact Option.some.inj hv
              subst this
              refine ⟨.inr ⟨hgB, (Array.getElem?_eq_some_iff.1 hh).1⟩, ?_, h4⟩
              rw [Nat.zero_add, cell_of_row wr g i cur 26 (0, 0) hh]
              exact h3
            · cases hv
          · intro i v x hv hx'
            rw [List.getElem?_take] at hv
            split at hv
            · rename_i hi
              obtain ⟨v', h3, h4, h5, _⟩ := hc2 i x hx'
              have : v' = v := by
                have : cur.toList[i]? = some v' := by simpa using h3
                rw [this] at hv
                exact Option.some.inj hv
              subst this
              exact (h5 (.inr hi)).1.grow fun b o h => h.imp id fun h => ⟨by omega, h.2⟩
            · cases hv
      · refine ⟨_, _, rfl, hC1, ?_⟩
        by_cases h0 : k = 0
        · exact .inl h0
        · obtain ⟨g, rfl, hgB, cur, hh, hc2⟩ := hrow h0
          refine .inr ⟨g, cur, rfl, hgB, (Array.getElem?_eq_some_iff.1 hh).1, hh, ?_, fun i => cur.getD (i * 7 + 4) default, fun i => cur.getD (i * 7 + 5) default, fun i hi => ?_⟩
          · obtain ⟨v, h3, _⟩ := hc2 (k * 7 - 1) _ (List.getElem?_eq_getElem (by omega : k * 7 - 1 < (flat es).length))
            have := (Array.getElem?_eq_some_iff.1 h3).1
            omega
          · have hk' : i < es.length := by rw [← HN.out]; exact hi
            have hei : es[i]? = some es[i] := List.getElem?_eq_getElem hk'
            obtain ⟨p, kk, sp, nm, la, ls, tx, he, _⟩ := isNode_inv (hs es[i] (List.getElem_mem hk'))
            rw [he] at hei
            have e4 := flat_at (isNode_len hs) hei 4 (by decide)
            have e5 := flat_at (isNode_len hs) hei 5 (by decide)
            obtain ⟨v4, p1, p2, p3, _⟩ := hc2 _ (.list la) e4
            obtain ⟨v5, r1, r2, r3, _⟩ := hc2 _ (.list ls) e5
            have g4 : cur.getD (i * 7 + 4) default = v4 := by simp [Array.getD_eq_getD_getElem?, p1]
            have g5 : cur.getD (i * 7 + 5) default = v5 := by simp [Array.getD_eq_getD_getElem?, r1]
            have o4 := (p3 (.inr (by omega))).2.resolve_left (by simp [noPtr])
            have o5 := (r3 (.inr (by omega))).2.resolve_left (by simp [noPtr])
            rw [if_pos (by omega)] at o4
            rw [if_neg (by omega)] at o5
            exact ⟨p1.trans (congrArg some g4.symm), r1.trans (congrArg some g5.symm), by show OwnV _ _ _ _ (cur.getD (i * 7 + 4) default); rw [g4]; exact o4, by show OwnV _ _ _ _ (cur.getD (i * 7 + 5) default); rw [g5]; exact o5⟩
    · have hlt2 : k < n := by omega
      obtain ⟨g, rfl, hgB, hR⟩ := hrow (by omega)
      obtain ⟨b, off, la, ls, x4, c4, x5, c5, rfl, hbw, q4, q5, d4, d5, f4, f5, s4, s5, l4, l5⟩ := node_cells hs (by rw [← HN.out]; exact hvl) hsl hx (i := k) (by rw [← HN.out]; exact hlt2)
      obtain ⟨n4, n5⟩ : (∀ x ∈ flat la, noPtr x = true) ∧ (∀ x ∈ flat ls, noPtr x = true) := by
        have hk' : k < es.length := by rw [← HN.out]; exact hlt2
        have hei : es[k]? = some es[k] := List.getElem?_eq_getElem hk'
        obtain ⟨p, kk, sp, nm, la', ls', tx, he, _⟩ := isNode_inv (hs es[k] (List.getElem_mem hk'))
        have hmem : es[k] ∈ es := List.getElem_mem hk'
        rw [he] at hei hmem
        have e4 := (flat_at (isNode_len hs) hei 4 (by decide)).symm.trans f4
        have e5 := (flat_at (isNode_len hs) hei 5 (by decide)).symm.trans f5
        simp [dcells] at e4 e5
        subst e4 e5
        exact hpl _ _ _ _ _ _ _ hmem
      have r4 := (hG.cell (p := ⟨b, off + (k * 7 + 4), none⟩) hbw).trans q4
      have r5 := (hG.cell (p := ⟨b, off + (k * 7 + 5), none⟩) hbw).trans q5
      rw [← Nat.add_assoc] at r4 r5
      have hbr : b < wr.heap.size := Nat.lt_of_lt_of_le hbw hG.size
      have hsz := hG.size
      clear q4 q5
      have hbg : b ≠ g := by omega
      have hgr : g < wr.heap.size := by obtain ⟨cur, h, _⟩ := hR; exact (Array.getElem?_eq_some_iff.1 h).1
      have E4 : OwnR (wr.alloc (.cells #[] 54)) wr.heap.size 54 3 (.slice (some ⟨wr.heap.size, 0, none⟩) 0 0) 0 [] := .inl ⟨rfl, rfl, _, rfl⟩
      have G4 : Ge wr (wr.alloc (.cells #[] 54)) := (Below.refl _ _).alloc (Nat.le_refl _) _
      obtain ⟨y4, e4, vs4, hv4, hc4, hvl4, hsl4, h14, hx4⟩ := list_sl hlt d4 s4
      obtain ⟨y5, e5, vs5, hv5, hc5, hvl5, hsl5, h15, hx5⟩ := list_sl hlt d5 s5
      cases hv4
      cases hv5
      go_wp2_with (first
        | (at_builtin; refine app_slR _ rfl (.tmp 15) (.tmp 20) 23 rfl ei23 wr.heap.size _ 0 [] rfl E4 w.heap.size x4 la.length c4 vs4 rfl (hsl4.ge (Nat.le_refl _) (hG.new _)) hvl4 h14 (by simp only [maxLen]; omega) (by omega) (by simp) ?_; intro v2 w2 ho2 hg2 hb2; obtain ⟨A2, C2, hv2, hC2⟩ := ownR_form ho2; rw [Nat.zero_add] at hv2 hC2; subst hv2; have G2 := G4.trans hb2; have R2 := hR.ge hlt hltG hG.size G2; obtain ⟨z4, p1, p2, p3, p4⟩ := R2.cell f4; have hb2r : b < w2.heap.size := Nat.lt_of_lt_of_le hbr G2.size; have g2 := (Below.cell G2 (p := ⟨b, off + k * 7 + 5, none⟩) hbr).trans r5; have G3 := ge_put (p := ⟨g, k * 7 + 4, none⟩) (hG.tr G2) hgB (.slice A2 la.length C2); have V4 : GoodC G g (k * 7 + 4) w2 (.slice A2 la.length C2) (.list la) := ⟨own_den ho2 (by simp) (by decide) s4 (fun b o h1 h2 => .inr ⟨by omega, h2⟩) (by simpa using h14) (fun i v x hv hx => noPtr_den (n4 x (List.mem_of_getElem? hx)) (hx4 i v x (by simpa using hv) hx)), .inr (by rw [if_pos (by omega)]; have hq := OwnV.of ho2 (A := A2) (c := C2) (by simp) (by omega) (by omega); obtain ⟨qa, ql, qc, q1, q2, q3⟩ := hq; exact ⟨qa, ql, qc, q1, q2, q3.imp id fun ⟨b, cs, t, h1, h2, h2', h3, h4⟩ => ⟨b, cs, t, h1, by omega, h2', h3, h4⟩⟩)⟩; have R3 := R2.put hlt hltG (hG.tr G2).size hgB f4 rfl V4)
        | (at_builtin; (refine app_slR _ rfl (.tmp 26) (.tmp 31) 24 rfl ei24 (w2.setCell ⟨g, k * 7 + 4, none⟩ (.slice A2 la.length C2)).heap.size _ 0 [] rfl (.inl ⟨rfl, rfl, _, rfl⟩) w.heap.size x5 ls.length c5 vs5 rfl (hsl5.ge (Nat.le_refl _) (G3.new _)) hvl5 h15 (by simp only [maxLen]; omega) (by omega) (by simp) ?_); (intro v5 w5 ho5 hg5 hb5); (obtain ⟨A5, C5, hv5, hC5⟩ := ownR_form ho5); (rw [Nat.zero_add] at hv5 hC5); (subst hv5); (have GA : Ge (w2.setCell ⟨g, k * 7 + 4, none⟩ (.slice A2 la.length C2)) w5 := ((Below.refl _ _).alloc (Nat.le_refl _) _).trans hb5); (have R5 := R3.ge hlt hltG G3.size GA); (have G5 := G3.tr GA); (obtain ⟨z5, t1, t2, t3, t4⟩ := R5.cell f5); (have hgs : g + 1 ≤ (w2.setCell ⟨g, k * 7 + 4, none⟩ (.slice A2 la.length C2)).heap.size := by (have hq := G2.size; simp; first | done | omega)); (have V5 : GoodC G g (k * 7 + 5) w5 (.slice A5 ls.length C5) (.list ls) := ⟨own_den ho5 (by simp) (by decide) s5 (fun b o h1 h2 => .inr ⟨by omega, h2⟩) (by simpa using h15) (fun i v x hv hx => noPtr_den (n5 x (List.mem_of_getElem? hx)) (hx5 i v x (by simpa using hv) hx)), .inr (by rw [if_neg (by omega)]; have hq := OwnV.of ho5 (A := A5) (c := C5) (by simp) (by omega) (by omega); obtain ⟨qa, ql, qc, q1, q2, q3⟩ := hq; exact ⟨qa, ql, qc, q1, q2, q3.imp id fun ⟨b, cs, t, h1, h2, h2', h3, h4⟩ => ⟨b, cs, t, h1, by omega, h2', h3, h4⟩⟩)⟩); (have R6 := R5.put hlt hltG G5.size hgB f5 rfl V5); (have G6 := ge_put (p := ⟨g, k * 7 + 5, none⟩) G5 hgB (.slice A5 ls.length C5))))
      exact ⟨⟨k + 1, by simp, hlt2, G6, fun _ => ⟨g, rfl, hgB, R6.mono fun m x hx => dnk_succ hs (by rw [← HN.out]; exact hlt2) m x hx⟩⟩, by simp [intOf]; omega⟩
end Go.Av
/- Chapter 11: the law's spoil: the walk. Conditions: the document lies in rows of its own. -/
set_option linter.unusedVariables false
set_option linter.unusedSimpArgs false
set_option maxRecDepth 100000
namespace Go.Av
open Go.Proofs Go.RowKit Go.Proofs.YtdbimjpjpgfeeaaDoor
/-- Nothing has turned but blocks between two places. -/
structure Betw (lo hi : Nat) (w W : World) : Prop where
  os : W.os = w.os
  tape : W.tape = w.tape
  output : W.output = w.output
  size : W.heap.size = w.heap.size
  block : ∀ b, ¬ (lo ≤ b ∧ b < hi) → W.heap[b]? = w.heap[b]?
theorem Betw.refl (lo hi : Nat) (w : World) : Betw lo hi w w := ⟨rfl, rfl, rfl, rfl, fun _ _ => rfl⟩
theorem Betw.put {lo hi : Nat} {w W : World} (h : Betw lo hi w W) {b o : Nat} (h1 : lo ≤ b) (h2 : b < hi) (u : Value) : Betw lo hi w (W.setCell ⟨b, o, none⟩ u) :=
  ⟨h.os, h.tape, h.output, by simpa using h.size, fun c hc => (Below.heap_setCell W ⟨b, o, none⟩ u c (fun e => hc (by subst e; exact ⟨h1, h2⟩))).trans (h.block c hc)⟩
structure SP (lo hi n g : Nat) (V4 V5 : Nat → Value) (w wr : World) : Prop where
  betw : Betw lo hi w wr
  lg : lo ≤ g
  gh : g < hi
  row : ∃ cur, wr.heap[g]? = some (.cells cur 26 (0, 0)) ∧ n * 7 ≤ cur.size ∧ ∀ i, i < n → cur[i * 7 + 4]? = some (V4 i) ∧ cur[i * 7 + 5]? = some (V5 i)
  o4 : ∀ i, i < n → OwnV wr (g + 1) hi 3 (V4 i)
  o5 : ∀ i, i < n → OwnV wr (g + 1) hi 1 (V5 i)
section
variable {lo hi n g : Nat} {V4 V5 : Nat → Value} {w wr : World}
theorem SP.putB (h : SP lo hi n g V4 V5 w wr) {b o : Nat} (h1 : g + 1 ≤ b) (h2 : b < hi) (u : Value) : SP lo hi n g V4 V5 w (wr.setCell ⟨b, o, none⟩ u) := by
  obtain ⟨cur, c1, c2, c3⟩ := h.row
  exact ⟨h.betw.put (by have := h.lg; omega) h2 u, h.lg, h.gh, ⟨cur, (Below.heap_setCell wr ⟨b, o, none⟩ u g (by show g ≠ b; omega)).trans c1, c2, c3⟩, fun i hi => (h.o4 i hi).put, fun i hi => (h.o5 i hi).put⟩
theorem SP.putK (h : SP lo hi n g V4 V5 w wr) (i : Nat) (u : Value) : SP lo hi n g V4 V5 w (wr.setCell ⟨g, i * 7 + 1, none⟩ u) := by
  obtain ⟨cur, c1, c2, c3⟩ := h.row
  refine ⟨h.betw.put h.lg h.gh u, h.lg, h.gh, ⟨cur.setIfInBounds (i * 7 + 1) u, heap_setCell_same wr g _ cur 26 u c1, by simpa using c2, fun j hj => ?_⟩, fun i hi => (h.o4 i hi).put, fun i hi => (h.o5 i hi).put⟩
  rw [Array.getElem?_setIfInBounds_ne (by omega), Array.getElem?_setIfInBounds_ne (by omega)]
  exact c3 j hj
theorem SP.cell4 (h : SP lo hi n g V4 V5 w wr) {i : Nat} (hi : i < n) : wr.cell? ⟨g, i * 7 + 4, none⟩ = some (V4 i) ∧ wr.cell? ⟨g, i * 7 + 5, none⟩ = some (V5 i) ∧ (∃ u, wr.cell? ⟨g, i * 7 + 1, none⟩ = some u) ∧ wr.frozen? ⟨g, i * 7 + 1, none⟩ = false := by
  obtain ⟨cur, c1, c2, c3⟩ := h.row
  obtain ⟨c4, c5⟩ := c3 i hi
  refine ⟨by rw [cell_of_row wr g _ cur 26 (0, 0) c1]; exact c4, by rw [cell_of_row wr g _ cur 26 (0, 0) c1]; exact c5, ?_, frozen_of_row wr g _ cur 26 c1⟩
  rw [cell_of_row wr g _ cur 26 (0, 0) c1]
  exact ⟨_, Array.getElem?_eq_getElem (by omega)⟩
end
theorem OwnV.cells {w : World} {lo hi sz l c k : Nat} {a : Option Addr} (h : OwnV w lo hi sz (.slice a l c)) (hk : k < l) : ∃ b, a = some ⟨b, 0, none⟩ ∧ lo ≤ b ∧ b < hi ∧ ∀ j, j < sz → (∃ u, w.cell? ⟨b, k * sz + j, none⟩ = some u) ∧ w.frozen? ⟨b, k * sz + j, none⟩ = false := by
  obtain ⟨a', l', c', e, hc, h | ⟨b, cs, t, h1, h2, h2', h3, h4⟩⟩ := h
  · injection e with e1 e2 e3
    omega
  · injection e with e1 e2 e3
    subst e1 e2 e3
    refine ⟨b, h1, h2, h2', fun j hj => ⟨?_, frozen_of_row w b _ cs t h3⟩⟩
    rw [cell_of_row w b _ cs t (0, 0) h3]
    have : k * sz + sz ≤ l * sz := by
      have := Nat.mul_le_mul_right sz (show k + 1 ≤ l from hk)
      rw [Nat.succ_mul] at this
      exact this
    exact ⟨_, Array.getElem?_eq_getElem (by omega)⟩
set_option maxHeartbeats 4000000 in
theorem spoil_any (lo hi n : Nat) (u : Value) (w : World) (hn : n ≤ 1000000) (h : NewDoc lo hi n u w) : Calls Tryd.prog 20 #[u] w fun e W => e = .returned (.tuple #[]) ∧ Betw lo hi w W := by
  obtain ⟨A, C, rfl, hC, h0 | ⟨g, cur, rfl, hlg, hgh, hcur, hsz, V4, V5, hV⟩⟩ := h
  · subst h0
    go_enter Tryd.func20, Tryd.ntmps20
    go_wp2_with fail
    go_loopw [7] (fun v wr => v = .int .i64 (0 : Nat) ∧ wr = w) (fun v _ => 0)
    case atStart => exact ⟨rfl, rfl⟩
    case round =>
      obtain ⟨rfl, rfl⟩ := hrel
      go_wp2_with fail
      go_end0
      exact ⟨rfl, Betw.refl _ _ _⟩
  · have HS : SP lo hi n g V4 V5 w w := ⟨Betw.refl _ _ _, hlg, hgh, ⟨cur, hcur, hsz, fun i hi => ⟨(hV i hi).1, (hV i hi).2.1⟩⟩, fun i hi => (hV i hi).2.2.1, fun i hi => (hV i hi).2.2.2⟩
    clear hV hsz hcur hlg hgh
    go_enter Tryd.func20, Tryd.ntmps20
    go_wp2_with fail
    go_loopw [7] (fun v wr => ∃ i : Nat, v = .int .i64 i ∧ i ≤ n ∧ SP lo hi n g V4 V5 w wr) (fun v _ => n - (intOf v).toNat)
    case atStart => exact ⟨0, rfl, Nat.zero_le _, HS⟩
    case round =>
      clear HS
      obtain ⟨i, rfl, hin, HS⟩ := hrel
      by_cases hi2 : i < n
      · obtain ⟨c4, c5, ⟨u1, c1⟩, f1⟩ := HS.cell4 hi2
        obtain ⟨a4, l4, d4, e4, k4, _⟩ := HS.o4 i hi2
        obtain ⟨a5, l5, d5, e5, k5, _⟩ := HS.o5 i hi2
        rw [e4] at c4
        rw [e5] at c5
        have hs0 := Lib.hid HS
        have l4L := k4.2
        have l5L := k5.2
        clear HS c5 c1 f1 k4 k5
        go_wp2_with fail
        go_loopw [16] (fun v wy => ∃ k : Nat, v = .int .i64 k ∧ k ≤ l4 ∧ SP lo hi n g V4 V5 w wy) (fun v _ => l4 - (intOf v).toNat)
        case atStart => exact ⟨0, rfl, Nat.zero_le _, hs0.out⟩
        case round =>
          clear hs0 c4
          obtain ⟨k, rfl, hk, HS⟩ := hrel
          obtain ⟨c4, c5, ⟨u1, c1⟩, f1⟩ := HS.cell4 hi2
          have ho4 := HS.o4 i hi2
          rw [e4] at c4 ho4
          rw [e5] at c5
          by_cases hkl : k < l4
          · obtain ⟨b, rfl, hb1, hb2, hcs⟩ := ho4.cells hkl
            obtain ⟨⟨x0, y0⟩, z0⟩ := hcs 0 (by decide)
            obtain ⟨⟨x1, y1⟩, z1⟩ := hcs 1 (by decide)
            obtain ⟨⟨x2, y2⟩, z2⟩ := hcs 2 (by decide)
            rw [Nat.add_zero] at y0 z0
            have HQ := Lib.hid HS
            clear HS hcs ho4 c5 c1 f1
            go_wp2_with fail
            exact ⟨⟨k + 1, by simp, hkl, ((HQ.out.putB hb1 hb2 _).putB hb1 hb2 _).putB hb1 hb2 _⟩, by simp [intOf]; omega⟩
          · obtain rfl : k = l4 := by omega
            have hs0 := Lib.hid HS
            clear HS ho4 c1 f1 c4
            go_wp2_with fail
            go_loopw [34] (fun v wy => ∃ k : Nat, v = .int .i64 k ∧ k ≤ l5 ∧ SP lo hi n g V4 V5 w wy) (fun v _ => l5 - (intOf v).toNat)
            case atStart => exact ⟨0, rfl, Nat.zero_le _, hs0.out⟩
            case round =>
              clear hs0 c5
              obtain ⟨m, rfl, hm, HS⟩ := hrel
              obtain ⟨c4, c5, ⟨u1, c1⟩, f1⟩ := HS.cell4 hi2
              have ho5 := HS.o5 i hi2
              rw [e5] at c5 ho5
              by_cases hml : m < l5
              · obtain ⟨b, rfl, hb1, hb2, hcs⟩ := ho5.cells hml
                obtain ⟨⟨x0, y0⟩, z0⟩ := hcs 0 (by decide)
                rw [Nat.add_zero, Nat.mul_one] at y0 z0
                have HQ := Lib.hid HS
                clear HS hcs ho5 c4 c1 f1
                go_wp2_with fail
                exact ⟨⟨m + 1, by simp, hml, HQ.out.putB hb1 hb2 _⟩, by simp [intOf]; omega⟩
              · obtain rfl : m = l5 := by omega
                have HQ := Lib.hid HS
                clear HS ho5 c4 c5
                go_wp2_with fail
                exact ⟨⟨i + 1, by simp, hi2, HQ.out.putK i _⟩, by simp [intOf]; omega⟩
      · obtain rfl : i = n := by omega
        have HB := Lib.hid HS.betw
        clear HS
        go_wp2_with fail
        go_end0
        exact ⟨rfl, HB.out⟩
end Go.Av
/- Chapter 11: DomTells: the walk. Conditions: the tables lie as listed; the document is read. -/
set_option linter.unusedVariables false
set_option linter.unusedSimpArgs false
set_option maxRecDepth 100000
namespace Go.Av
open Go.Proofs Go.RowKit Go.Proofs.YtdbimjpjpgfeeaaDoor
theorem old_ge {w w' : World} {v : Value} {d : D} (h : Den0 (old w) w v d) (hb : Ge w w') : Den0 (old w') w' v d := (den_ge h (old_lt w) hb).grow fun b o h => Nat.lt_of_lt_of_le h hb.size
theorem gok_ge {w w' : World} (h : GOK (old w) w) (hb : Ge w w') : GOK (old w') w' :=
  ⟨fun g => (h.1 g).imp id fun d => old_ge d hb, fun x hx => (h.2 x hx).imp fun _ hd => ⟨hd.1, old_ge hd.2 hb⟩⟩
/-- A call by the evaluator, from a world on. -/
theorem ev {f : FuncId} {xs : List D} {d : D} {r : List Room} (h : callL Tryd.prog (ext11b chkC) f xs [] = some (d, r, [])) {w : World} {vals : List Value} (hg : GOK (old w) w) (hl : vals.length = xs.length)
    (hd : ∀ (i : Nat) (v : Value) (x : D), vals[i]? = some v → xs[i]? = some x → Den0 (old w) w v x) : Calls Tryd.prog f vals.toArray w (RetD (old w) w d) := by
  obtain ⟨N, hN⟩ := callL_aev h
  obtain ⟨_, hcall⟩ := aev_sound fine11 ext11c_ok N f _ [] _ _ _ hN
  exact (hcall vals w (old w) (fun _ => 0) hl (fun i v x hv hx => .pure _ _ (hd i v x hv hx)) (fun i bx hb => by simp at hb) (fun i j hi => absurd hi (Nat.not_lt_zero i)) (old_lt w) hg).mono fun e w' h => h.retD
theorem ret_bool {F : Nat → Nat → Prop} {w w' : World} {b : Bool} {e : Ending} (h : RetD F w (.bool b) e w') : e = .returned (.bool b) ∧ Ge w w' := by
  obtain ⟨v, rfl, hb, hv⟩ := h
  exact ⟨by rw [(hv 0 fun _ _ => 0).bool_], hb⟩
theorem ret_ii {F : Nat → Nat → Prop} {w w' : World} {k a : Int} {e : Ending} (h : RetD F w (.tuple [.int .i64 k, .int .i64 a]) e w') : e = .returned (.tuple #[.int .i64 k, .int .i64 a]) ∧ Ge w w' := by
  obtain ⟨v, rfl, hb, hv⟩ := h
  obtain ⟨vs, rfl, h1, h2⟩ := (hv 0 fun _ _ => 0).tuple_
  match vs, h1 with
  | [u0, u1], _ =>
    have e0 := (h2 0 u0 _ rfl rfl).int_
    have e1 := (h2 1 u1 _ rfl rfl).int_
    subst e0 e1
    exact ⟨rfl, hb⟩
theorem fix_form {F : Nat → Nat → Prop} {w : World} {v d : _} {off : Nat} (h : Den0 F w v (.fix d off)) : ∃ b o, v = .pointer (some ⟨b, o, none⟩) := by
  cases h with
  | fix d b o off vs => exact ⟨_, _, rfl⟩
theorem ret_tree {F : Nat → Nat → Prop} {w w' : World} {es : List D} {e : Ending} (h : RetD F w (.tuple [treeD es, .con .nilIface]) e w') : ∃ b o, e = .returned (.tuple #[.pointer (some ⟨b, o, none⟩), .nilIface]) ∧ Ge w w' ∧ Den0 (nw F w w') w' (.pointer (some ⟨b, o, none⟩)) (treeD es) := by
  obtain ⟨v, rfl, hb, hv⟩ := h
  obtain ⟨vs, rfl, h1, h2⟩ := (hv 0 fun _ _ => 0).tuple_
  match vs, h1 with
  | [u0, u1], _ =>
    have e0 : Den 0 (fun _ _ => 0) (nw F w w') w' u0 (treeD es) := h2 0 u0 _ rfl rfl
    have e1 := h2 1 u1 _ rfl rfl
    have e1' := den_con e1
    subst e1'
    have e2 := Den.fix_ (d := _) (off := 0) e0
    obtain ⟨b, o, rfl⟩ := fix_form e2
    exact ⟨b, o, rfl, hb, e2⟩
theorem ret_list {F : Nat → Nat → Prop} {w w' : World} {es : List D} {e : Ending} (h : RetD F w (.list es) e w') : ∃ a n c, e = .returned (.slice a n c) ∧ Ge w w' ∧ Den0 (nw F w w') w' (.slice a n c) (.list es) := by
  obtain ⟨v, rfl, hb, hv⟩ := h
  have h1 := (hv 0 fun _ _ => 0).list_
  cases h1 with
  | list a n c sz es vs q1 q2 q3 q4 q5 q6 q7 => exact ⟨a, n, c, rfl, hb, .list a n c sz es vs q1 q2 q3 q4 q5 q6 q7⟩
theorem plainN (ns : List Nd) : PlainN (ns.map Nd.d) := by
  intro p k sp nm la ls tx h
  obtain ⟨n, _, e⟩ := List.mem_map.1 h
  rw [ndat] at e
  simp only [D.agg.injEq, List.cons.injEq, D.list.injEq, D.int.injEq, D.str.injEq, true_and, and_true] at e
  obtain ⟨_, _, _, _, rfl, rfl, _⟩ := e
  constructor
  · intro x hx
    unfold flat at hx
    rw [List.mem_flatMap] at hx
    obtain ⟨y, hy, hx⟩ := hx
    obtain ⟨a, _, rfl⟩ := List.mem_map.1 hy
    have hx' : x ∈ [D.str a.sp, D.str a.nm, D.str a.vl] := hx
    simp only [List.mem_cons, List.not_mem_nil, or_false] at hx'
    rcases hx' with rfl | rfl | rfl <;> rfl
  · intro x hx
    unfold flat at hx
    rw [List.mem_flatMap] at hx
    obtain ⟨y, hy, hx⟩ := hx
    obtain ⟨a, _, rfl⟩ := List.mem_map.1 hy
    have hx' : x ∈ [D.str a] := hx
    simp only [List.mem_cons, List.not_mem_nil, or_false] at hx'
    subst hx'
    rfl
def noF : Nat → Nat → Prop := fun _ _ => False
theorem noF_lt (w : World) : Lt noF w := fun _ _ h => h.elim
theorem NewDoc.ge {lo hi n : Nat} {u : Value} {w W : World} (h : NewDoc lo hi n u w) (hb : Ge w W) : NewDoc lo hi n u W := by
  obtain ⟨A, C, rfl, hC, h0 | ⟨g, cur, rfl, h1, h2, h3, h4, V4, V5, hV⟩⟩ := h
  · exact ⟨A, C, rfl, hC, .inl h0⟩
  · exact ⟨_, C, rfl, hC, .inr ⟨g, cur, rfl, h1, h2, (hb.block g (Array.getElem?_eq_some_iff.1 h3).1).trans h3, h4, V4, V5, fun i hi => ⟨(hV i hi).1, (hV i hi).2.1, (hV i hi).2.2.1.ge hb (Nat.le_refl _), (hV i hi).2.2.2.ge hb (Nat.le_refl _)⟩⟩⟩
/-- What lies outside two places reads behind a spoiling as it did. -/
theorem betw_den {lo hi : Nat} {w W : World} {F : Nat → Nat → Prop} (h : Betw lo hi w W) (hF : ∀ b o, F b o → ¬ (lo ≤ b ∧ b < hi)) {v : Value} {d : D} (hd : Den0 F w v d) : Den0 F W v d :=
  hd.ext (S := fun b => lo ≤ b ∧ b < hi) ⟨h.os, h.tape, h.output, by rw [h.size]; exact Nat.le_refl _, fun b _ hs => h.block b hs, fun b o hf => hf, fun b o hf => by unfold World.cell?; rw [h.block b (hF b o hf)], fun b es c hf hm => (h.block b (hF b 0 hf)).trans hm⟩
end Go.Av
