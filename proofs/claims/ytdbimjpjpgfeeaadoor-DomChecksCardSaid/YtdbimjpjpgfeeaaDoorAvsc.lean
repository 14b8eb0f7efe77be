/- The evaluator, in one text: over any program; no conditions but those that each law names. -/
import Derived.Test.YtdbimjpjpgfeeaaDoorAvsa
import Derived.Test.YtdbimjpjpgfeeaaDoorAvsb
set_option linter.unusedSimpArgs false
set_option linter.unusedVariables false
set_option linter.unusedSectionVars false
/- Chapter 11: whether a document is great, as the document says. -/
set_option linter.unusedSimpArgs false
set_option linter.unusedVariables false
set_option linter.unusedSectionVars false
set_option maxRecDepth 100000
namespace Go.Av
open Go.Proofs
variable {chk : List D → Bool}
def atG (a : At) : Bool := decide ((200 : Int) < a.nm.length) || (decide ((200 : Int) < a.sp.length) || decide ((200 : Int) < a.vl.length))
def ndG0 (n : Nd) : Bool := decide ((20 : Int) < n.at_.length) || (decide ((20 : Int) < n.st.length) || (decide ((200 : Int) < n.nm.length) || (decide ((200 : Int) < n.sp.length) || decide ((200 : Int) < n.tx.length))))
def ndG (n : Nd) : Bool := ndG0 n || n.at_.any atG
def greatF (ns : List Nd) (most : Nat) : Bool := decide ((most : Int) < ns.length) || ns.any ndG
theorem any_drop {α : Type} {xs : List α} {i : Nat} {x : α} (f : α → Bool) (hx : xs[i]? = some x) : (xs.drop i).any f = (f x || (xs.drop (i + 1)).any f) := by
  have h1 : i < xs.length := (List.getElem?_eq_some_iff.1 hx).1
  have e1 : xs[i] = x := (List.getElem?_eq_some_iff.1 hx).2
  rw [List.drop_eq_getElem_cons h1, e1, List.any_cons]
theorem any_end {α : Type} {xs : List α} {i : Nat} (f : α → Bool) (h : xs.length ≤ i) : (xs.drop i).any f = false := by
  rw [List.drop_eq_nil_of_le h]
  rfl
set_option maxHeartbeats 16000000 in
theorem great_L (ns : List Nd) (most : Nat) (hm : most ≤ 1000) : callL Tryd.prog (ext11b chk) 9 [.list (ns.map Nd.d), .int .i64 most] [] = some (.bool (greatF ns most), [.no], []) := by
  have lN := lenM ns Nd.d
  unfold greatF
  refine callK (m := 85) (res := [4]) (rs := [.tmp 4]) rfl Tryd.func9 rfl rfl rfl rfl rfl ?_
  by_cases hg : (most : Int) < ns.length
  · rw [decide_eq_true hg, Bool.true_or]
    clear hm
    repeat' (first
    | simp only [*, go_seq, go_cond, go_retc, go_region, go_ops_nil, go_ops, okG_some, cwD_bool, gw_true, guardG, opG, isPtr, inB, sval, stake, eats, eaters, get, cval, cval1, croom, St.taken, put_slot, put_room, put_box, dem_none, entry_slot, entry_box, endQ, endR, endV, rvars, rvar, room1, ↓reduceIte, Nat.reduceEqDiff, Nat.reduceLT, reduceCtorEq, decide_true, List.filterMap_cons, List.filterMap_nil, Option.map_some, List.getD_cons_zero, List.getD_cons_succ, List.contains_cons, List.contains_nil, List.map_cons, List.map_nil, Bool.or_false, Bool.false_eq_true, dbin, dIntBin, row11, frz11, frzOf_def, frz_nil, pureB, leaf, leafN, List.take_nil, List.range_zero, List.length_nil, List.getElem?_nil, and_self, gt_iff_lt, len22, frz11b]
    | (refine drW_intro (by kernel_rfl) ?_)
    | (refine gw_intro (fun h => ?_) (fun h => ?_) <;> (try simp only [beq_true, beq_false, Bool.not_eq_eq_eq_not, Bool.not_true, Bool.not_false, Bool.not_not, decide_eq_true_eq, decide_eq_false_iff_not, ge_iff_le, gt_iff_lt] at h)))
  · rw [decide_eq_false hg, Bool.false_or]
    have hl : ns.length ≤ 1000 := by omega
    have HL := Hd.mk hl
    clear hl hm
    obtain ⟨R, hR⟩ : ∃ R, Hd (R = ns.any ndG) := ⟨_, rfl⟩
    rw [← (show R = ns.any ndG from hR)]
    repeat' (first
    | simp only [*, go_seq, go_cond, go_block, go_skip, go_loop, go_region, go_ops_nil, go_ops, okG_some, cwD_bool, gw_false, guardG, opG, isPtr, inB, sval, stake, eats, eaters, get, cval, cval1, croom, St.taken, put_slot, dem_none, entry_slot, ↓reduceIte, Nat.reduceEqDiff, Nat.reduceLT, reduceCtorEq, decide_true, decide_false, List.filterMap_cons, List.filterMap_nil, Option.map_some, List.getD_cons_zero, List.getD_cons_succ, List.contains_cons, List.contains_nil, List.map_cons, List.map_nil, Bool.or_false, Bool.false_eq_true, dbin, dIntBin, row11, frz11, frzOf_def, frz_nil, List.length_nil, gt_iff_lt, len22, frz11b]
    | (refine drW_intro (by kernel_rfl) ?_)
    | (refine gw_intro (fun h => ?_) (fun h => ?_) <;> (try simp only [beq_true, beq_false, Bool.not_eq_eq_eq_not, Bool.not_true, Bool.not_false, Bool.not_not, decide_eq_true_eq, decide_eq_false_iff_not, ge_iff_le, gt_iff_lt] at h)))
    clear hg
    refine loopH (fun st => ∃ i : Nat, i ≤ ns.length ∧ st.slot 5 = .int .i64 i ∧ st.slot 0 = .list (ns.map Nd.d) ∧ st.slot 4 = .bool false ∧ st.room 4 = [] ∧ Hd (R = (ns.drop i).any ndG)) (fun st => ns.length - slotI st 5) ?_ ?_
    · refine ⟨0, Nat.zero_le _, ?_, ?_, ?_, ?_, hR⟩
      all_goals simp only [*, put_slot, put_room, entry_slot, ↓reduceIte, Nat.reduceEqDiff, reduceCtorEq, List.getD_cons_zero]
      all_goals rfl
    · rintro st K ⟨i, hi, g5, g0, g4, gr, hO⟩ hn hx hr
      have hl : ns.length ≤ 1000 := HL
      by_cases h : i < ns.length
      · have g9 : (i : Int) < ns.length := by omega
        have hw := wrapS i (by omega)
        obtain ⟨x, hx1⟩ := some_at h
        have hO' : R = (ns.drop i).any ndG := hO
        rw [any_drop ndG hx1] at hO'
        have ha := getD_map (f := Nd.d) hx1
        obtain ⟨p, k, sp, nm, a, s, tx⟩ := x
        have ha2 : (ns.map Nd.d).getD i .bad = .agg [.int .i64 p, .int .i64 k, .str sp, .str nm, .list (a.map At.d), .list (s.map .str), .str tx] := ha
        clear ha hx1
        have lA := lenM a At.d
        have lS := lenM s D.str
        generalize s.map D.str = S at *
        simp only [ndG, ndG0] at hO'
        have HI := Hd.mk h
        clear hl h hO hx
        by_cases c1 : (20 : Int) < a.length
        · rw [decide_eq_true c1] at hO'
          simp only [Bool.true_or] at hO'
          subst hO'
          clear hn hR HI
          repeat' (first
    | simp only [*, go_seq, go_cond, go_block, go_skip, go_retc, go_region, go_ops_nil, go_ops, okG_some, okB_some, gwD_bool, cwD_bool, gw_true, gw_false, guardG, opG, isPtr, inB, sval, stake, eats, eaters, get, cval, cval1, croom, St.taken, put_slot, put_box, put_ctr, put_none, dem_none, setBox_slot, setBox_room, setBox_box, ↓reduceIte, Nat.reduceEqDiff, Nat.reduceLT, Nat.reduceLeDiff, reduceCtorEq, decide_true, List.filterMap_cons, List.filterMap_nil, Option.bind_some, Option.map_some, List.getElem?_cons_zero, List.getElem?_cons_succ, List.contains_cons, List.contains_nil, List.map_cons, List.map_nil, Bool.or_false, Bool.and_true, Bool.false_eq_true, dbin, dIntBin, okR, callG, row11, frz11, frzOf_def, frz_nil, beq_false, Bool.not_true, pureB, leaf, leafN, List.all_cons, List.all_nil, List.nil_append, List.append_nil, List.length_nil, List.length_cons, List.take_zero, List.drop_zero, List.drop_succ_cons, dcells, Nat.zero_add, Nat.reduceAdd, stepBox, Int.natCast_nonneg, Int.toNat_natCast, and_self, gt_iff_lt, dStrBin, ty26, dp26, fp26_4, zr26, ia22, len22, dp23, len23, frz11b]
    | (refine drW_intro (by kernel_rfl) ?_)
    | (refine gw_intro (fun h => ?_) (fun h => ?_) <;> (try simp only [beq_true, beq_false, Bool.not_eq_eq_eq_not, Bool.not_true, Bool.not_false, Bool.not_not, decide_eq_true_eq, decide_eq_false_iff_not, ge_iff_le, gt_iff_lt] at h)))
          refine hr _ ?_
          repeat' (first
    | simp only [*, put_slot, put_room, put_box, setBox_box, endQ, endR, endV, rvars, rvar, room1, ↓reduceIte, List.map_nil, pureB, leaf, leafN, List.take_nil, List.range_zero, and_self]
    | (refine drW_intro (by kernel_rfl) ?_)
    | (refine gw_intro (fun h => ?_) (fun h => ?_) <;> (try simp only [beq_true, beq_false, Bool.not_eq_eq_eq_not, Bool.not_true, Bool.not_false, Bool.not_not, decide_eq_true_eq, decide_eq_false_iff_not, ge_iff_le, gt_iff_lt] at h)))
        · rw [decide_eq_false c1] at hO'
          by_cases c2 : (20 : Int) < s.length
          · rw [decide_eq_true c2] at hO'
            simp only [Bool.true_or, Bool.or_true] at hO'
            subst hO'
            clear hn hR HI
            repeat' (first
    | simp only [*, go_seq, go_cond, go_block, go_skip, go_retc, go_region, go_ops_nil, go_ops, okG_some, okB_some, gwD_bool, cwD_bool, gw_true, gw_false, guardG, opG, isPtr, inB, sval, stake, eats, eaters, get, cval, cval1, croom, St.taken, put_slot, put_box, put_ctr, put_none, dem_none, setBox_slot, setBox_room, setBox_box, ↓reduceIte, Nat.reduceEqDiff, Nat.reduceLT, Nat.reduceLeDiff, reduceCtorEq, decide_true, decide_false, List.filterMap_cons, List.filterMap_nil, Option.bind_some, Option.map_some, List.getElem?_cons_zero, List.getElem?_cons_succ, List.contains_cons, List.contains_nil, List.map_cons, List.map_nil, beq_self_eq_true, Bool.or_false, Bool.and_true, Bool.false_eq_true, dbin, dIntBin, okR, callG, row11, frz11, frzOf_def, frz_nil, beq_false, Bool.not_true, pureB, leaf, leafN, List.all_cons, List.all_nil, List.nil_append, List.append_nil, List.length_nil, List.length_cons, List.take_zero, List.drop_zero, List.drop_succ_cons, dcells, Nat.zero_add, Nat.reduceAdd, stepBox, Int.natCast_nonneg, Int.toNat_natCast, and_self, gt_iff_lt, dStrBin, ty26, dp26, fp26_4, fp26_5, zr26, ia22, len22, dp23, len23, dp24, len24, frz11b]
    | (refine drW_intro (by kernel_rfl) ?_)
    | (refine gw_intro (fun h => ?_) (fun h => ?_) <;> (try simp only [beq_true, beq_false, Bool.not_eq_eq_eq_not, Bool.not_true, Bool.not_false, Bool.not_not, decide_eq_true_eq, decide_eq_false_iff_not, ge_iff_le, gt_iff_lt] at h)))
            refine hr _ ?_
            repeat' (first
    | simp only [*, put_slot, put_room, put_box, setBox_box, endQ, endR, endV, rvars, rvar, room1, ↓reduceIte, List.map_nil, pureB, leaf, leafN, List.take_nil, List.range_zero, and_self]
    | (refine drW_intro (by kernel_rfl) ?_)
    | (refine gw_intro (fun h => ?_) (fun h => ?_) <;> (try simp only [beq_true, beq_false, Bool.not_eq_eq_eq_not, Bool.not_true, Bool.not_false, Bool.not_not, decide_eq_true_eq, decide_eq_false_iff_not, ge_iff_le, gt_iff_lt] at h)))
          · rw [decide_eq_false c2] at hO'
            by_cases c3 : (200 : Int) < nm.length
            · rw [decide_eq_true c3] at hO'
              simp only [Bool.true_or, Bool.or_true] at hO'
              subst hO'
              clear hn hR HI
              repeat' (first
    | simp only [*, go_seq, go_cond, go_block, go_skip, go_retc, go_region, go_ops_nil, go_ops, okG_some, okB_some, gwD_bool, cwD_bool, gw_true, gw_false, guardG, opG, isPtr, inB, sval, stake, eats, eaters, get, cval, cval1, croom, St.taken, put_slot, put_box, put_ctr, put_none, dem_none, setBox_slot, setBox_room, setBox_box, ↓reduceIte, Nat.reduceEqDiff, Nat.reduceLT, Nat.reduceLeDiff, reduceCtorEq, decide_true, decide_false, List.filterMap_cons, List.filterMap_nil, Option.bind_some, Option.map_some, List.getElem?_cons_zero, List.getElem?_cons_succ, List.contains_cons, List.contains_nil, List.map_cons, List.map_nil, beq_self_eq_true, Bool.or_false, Bool.and_true, Bool.false_eq_true, dbin, dIntBin, okR, callG, row11, frz11, frzOf_def, frz_nil, beq_false, Bool.not_true, pureB, leaf, leafN, List.all_cons, List.all_nil, List.nil_append, List.append_nil, List.length_nil, List.length_cons, List.take_zero, List.drop_zero, List.drop_succ_cons, dcells, Nat.zero_add, Nat.reduceAdd, stepBox, Int.natCast_nonneg, Int.toNat_natCast, and_self, gt_iff_lt, dStrBin, dp9, ty26, dp26, fp26_3, fp26_4, fp26_5, zr26, ia22, len22, dp23, len23, dp24, len24, len9, frz11b]
    | (refine drW_intro (by kernel_rfl) ?_)
    | (refine gw_intro (fun h => ?_) (fun h => ?_) <;> (try simp only [beq_true, beq_false, Bool.not_eq_eq_eq_not, Bool.not_true, Bool.not_false, Bool.not_not, decide_eq_true_eq, decide_eq_false_iff_not, ge_iff_le, gt_iff_lt] at h)))
              refine hr _ ?_
              repeat' (first
    | simp only [*, put_slot, put_room, put_box, setBox_box, endQ, endR, endV, rvars, rvar, room1, ↓reduceIte, List.map_nil, pureB, leaf, leafN, List.take_nil, List.range_zero, and_self]
    | (refine drW_intro (by kernel_rfl) ?_)
    | (refine gw_intro (fun h => ?_) (fun h => ?_) <;> (try simp only [beq_true, beq_false, Bool.not_eq_eq_eq_not, Bool.not_true, Bool.not_false, Bool.not_not, decide_eq_true_eq, decide_eq_false_iff_not, ge_iff_le, gt_iff_lt] at h)))
            · rw [decide_eq_false c3] at hO'
              by_cases c4 : (200 : Int) < sp.length
              · rw [decide_eq_true c4] at hO'
                simp only [Bool.true_or, Bool.or_true] at hO'
                subst hO'
                clear hn hR HI
                repeat' (first
    | simp only [*, go_seq, go_cond, go_block, go_skip, go_retc, go_region, go_ops_nil, go_ops, okG_some, okB_some, gwD_bool, cwD_bool, gw_true, gw_false, guardG, opG, isPtr, inB, sval, stake, eats, eaters, get, cval, cval1, croom, St.taken, put_slot, put_box, put_ctr, put_none, dem_none, setBox_slot, setBox_room, setBox_box, ↓reduceIte, Nat.reduceEqDiff, Nat.reduceLT, Nat.reduceLeDiff, reduceCtorEq, decide_true, decide_false, List.filterMap_cons, List.filterMap_nil, Option.bind_some, Option.map_some, List.getElem?_cons_zero, List.getElem?_cons_succ, List.contains_cons, List.contains_nil, List.map_cons, List.map_nil, beq_self_eq_true, Bool.or_false, Bool.and_true, Bool.false_eq_true, dbin, dIntBin, okR, callG, row11, frz11, frzOf_def, frz_nil, beq_false, Bool.not_true, pureB, leaf, leafN, List.all_cons, List.all_nil, List.nil_append, List.append_nil, List.length_nil, List.length_cons, List.take_zero, List.drop_zero, List.drop_succ_cons, dcells, Nat.zero_add, Nat.reduceAdd, stepBox, Int.natCast_nonneg, Int.toNat_natCast, and_self, gt_iff_lt, dStrBin, dp9, ty26, dp26, fp26_2, fp26_3, fp26_4, fp26_5, zr26, ia22, len22, dp23, len23, dp24, len24, len9, frz11b]
    | (refine drW_intro (by kernel_rfl) ?_)
    | (refine gw_intro (fun h => ?_) (fun h => ?_) <;> (try simp only [beq_true, beq_false, Bool.not_eq_eq_eq_not, Bool.not_true, Bool.not_false, Bool.not_not, decide_eq_true_eq, decide_eq_false_iff_not, ge_iff_le, gt_iff_lt] at h)))
                refine hr _ ?_
                repeat' (first
    | simp only [*, put_slot, put_room, put_box, setBox_box, endQ, endR, endV, rvars, rvar, room1, ↓reduceIte, List.map_nil, pureB, leaf, leafN, List.take_nil, List.range_zero, and_self]
    | (refine drW_intro (by kernel_rfl) ?_)
    | (refine gw_intro (fun h => ?_) (fun h => ?_) <;> (try simp only [beq_true, beq_false, Bool.not_eq_eq_eq_not, Bool.not_true, Bool.not_false, Bool.not_not, decide_eq_true_eq, decide_eq_false_iff_not, ge_iff_le, gt_iff_lt] at h)))
              · rw [decide_eq_false c4] at hO'
                by_cases c5 : (200 : Int) < tx.length
                · rw [decide_eq_true c5] at hO'
                  simp only [Bool.true_or, Bool.or_true] at hO'
                  subst hO'
                  clear hn hR HI
                  repeat' (first
    | simp only [*, go_seq, go_cond, go_block, go_skip, go_retc, go_region, go_ops_nil, go_ops, okG_some, okB_some, gwD_bool, cwD_bool, gw_true, guardG, opG, isPtr, inB, sval, stake, eats, eaters, get, cval, cval1, croom, St.taken, put_slot, put_box, put_ctr, put_none, dem_none, setBox_slot, setBox_room, setBox_box, ↓reduceIte, Nat.reduceEqDiff, Nat.reduceLT, Nat.reduceLeDiff, reduceCtorEq, decide_true, decide_false, List.filterMap_cons, List.filterMap_nil, Option.bind_some, Option.map_some, List.getElem?_cons_zero, List.getElem?_cons_succ, List.contains_cons, List.contains_nil, List.map_cons, List.map_nil, beq_self_eq_true, Bool.or_false, Bool.and_true, Bool.false_eq_true, dbin, dIntBin, okR, callG, row11, frz11, frzOf_def, frz_nil, pureB, leaf, leafN, List.all_cons, List.all_nil, List.nil_append, List.append_nil, List.length_nil, List.length_cons, List.take_zero, List.drop_zero, List.drop_succ_cons, dcells, Nat.zero_add, Nat.reduceAdd, stepBox, Int.natCast_nonneg, Int.toNat_natCast, and_self, gt_iff_lt, dStrBin, dp9, ty26, dp26, fp26_2, fp26_3, fp26_4, fp26_5, fp26_6, zr26, ia22, len22, dp23, len23, dp24, len24, len9, frz11b]
    | (refine drW_intro (by kernel_rfl) ?_)
    | (refine gw_intro (fun h => ?_) (fun h => ?_) <;> (try simp only [beq_true, beq_false, Bool.not_eq_eq_eq_not, Bool.not_true, Bool.not_false, Bool.not_not, decide_eq_true_eq, decide_eq_false_iff_not, ge_iff_le, gt_iff_lt] at h)))
                  refine hr _ ?_
                  repeat' (first
    | simp only [*, put_slot, put_room, put_box, setBox_box, endQ, endR, endV, rvars, rvar, room1, ↓reduceIte, List.map_nil, pureB, leaf, leafN, List.take_nil, List.range_zero, and_self]
    | (refine drW_intro (by kernel_rfl) ?_)
    | (refine gw_intro (fun h => ?_) (fun h => ?_) <;> (try simp only [beq_true, beq_false, Bool.not_eq_eq_eq_not, Bool.not_true, Bool.not_false, Bool.not_not, decide_eq_true_eq, decide_eq_false_iff_not, ge_iff_le, gt_iff_lt] at h)))
                · rw [decide_eq_false c5] at hO'
                  simp only [Bool.false_or] at hO'
                  have HO := Hd.mk hO'
                  have HA := Hd.mk c1
                  clear hO'
                  repeat' (first
    | simp only [*, go_seq, go_cond, go_block, go_skip, go_loop, go_region, go_ops_nil, go_ops, okG_some, okB_some, gwD_bool, cwD_bool, gw_true, gw_false, guardG, opG, isPtr, inB, sval, stake, eats, eaters, get, cval, cval1, croom, St.taken, put_slot, put_box, put_ctr, put_none, dem_none, setBox_slot, setBox_room, setBox_box, ↓reduceIte, Nat.reduceEqDiff, Nat.reduceLT, Nat.reduceLeDiff, reduceCtorEq, decide_true, decide_false, List.filterMap_cons, List.filterMap_nil, Option.bind_some, Option.map_some, List.getElem?_cons_zero, List.getElem?_cons_succ, List.contains_cons, List.contains_nil, List.map_cons, List.map_nil, beq_self_eq_true, Bool.or_false, Bool.and_true, Bool.false_eq_true, dbin, dIntBin, okR, callG, row11, frz11, frzOf_def, frz_nil, pureB, leaf, leafN, List.all_cons, List.all_nil, List.nil_append, List.append_nil, List.length_nil, List.length_cons, List.take_zero, List.drop_zero, List.drop_succ_cons, dcells, Nat.zero_add, Nat.reduceAdd, stepBox, Int.natCast_nonneg, Int.toNat_natCast, and_self, gt_iff_lt, dStrBin, dp9, ty26, dp26, fp26_2, fp26_3, fp26_4, fp26_5, fp26_6, zr26, ia22, len22, dp23, len23, dp24, len24, len9, frz11b]
    | (refine drW_intro (by kernel_rfl) ?_)
    | (refine gw_intro (fun h => ?_) (fun h => ?_) <;> (try simp only [beq_true, beq_false, Bool.not_eq_eq_eq_not, Bool.not_true, Bool.not_false, Bool.not_not, decide_eq_true_eq, decide_eq_false_iff_not, ge_iff_le, gt_iff_lt] at h)))
                  clear c1 c2 c3 c4 c5 ha2 g9
                  refine loopH (fun st' => ∃ j g : Nat, j ≤ a.length ∧ st'.slot 7 = .int .i64 j ∧ st'.slot 5 = .int .i64 i ∧ st'.slot 0 = .list (ns.map Nd.d) ∧ st'.slot 4 = .bool false ∧ st'.room 4 = [] ∧ st'.slot 6 = .ptr 6 g 0 ∧ st'.box 6 = some ⟨g, [.int .i64 p, .int .i64 k, .str sp, .str nm, .list (a.map At.d), .list S, .str tx]⟩ ∧ Hd (R = ((a.drop j).any atG || (ns.drop (i + 1)).any ndG))) (fun st' => a.length - slotI st' 7) ?_ ?_
                  · refine ⟨0, st.ctr, Nat.zero_le _, ?_, ?_, ?_, ?_, ?_, ?_, ?_, HO⟩
                    all_goals simp only [*, put_slot, put_room, put_box, setBox_slot, setBox_room, setBox_box, ↓reduceIte, Nat.reduceEqDiff, reduceCtorEq]
                    all_goals rfl
                  · rintro st' K' ⟨j, g, hj, e7, e5, e0, e4, er, e6, eb, hO2⟩ hn2 hx2 hr2
                    have hla : ¬ (20 : Int) < a.length := HA
                    have G5 := Hd.mk g5
                    clear g5 g0 g4 gr
                    by_cases h2 : j < a.length
                    · have g9 : (j : Int) < a.length := by omega
                      have hw2 := wrapS j (by omega)
                      obtain ⟨y, hy1⟩ := some_at h2
                      have hO3 : R = ((a.drop j).any atG || (ns.drop (i + 1)).any ndG) := hO2
                      rw [any_drop atG hy1] at hO3
                      have hb := getD_map (f := At.d) hy1
                      obtain ⟨a1, a2, a3⟩ := y
                      have hb2 : (a.map At.d).getD j .bad = .agg [.str a1, .str a2, .str a3] := hb
                      clear hb hy1 hla hO2 HO
                      simp only [atG] at hO3
                      by_cases d1 : (200 : Int) < a2.length
                      · rw [decide_eq_true d1] at hO3
                        simp only [Bool.true_or] at hO3
                        subst hO3
                        clear hn2 hx2 hR hn
                        repeat' (first
    | simp only [*, go_seq, go_cond, go_block, go_skip, go_retc, go_region, go_ops_nil, go_ops, okG_some, gwD_bool, cwD_bool, gw_true, gw_false, guardG, opG, isPtr, inB, sval, stake, eats, eaters, get, cval, cval1, croom, St.taken, put_slot, put_room, put_box, dem_none, setBox_slot, setBox_room, ↓reduceIte, Nat.reduceEqDiff, Nat.reduceLT, decide_true, List.filterMap_cons, List.filterMap_nil, Option.bind_some, Option.map_some, List.getElem?_cons_zero, List.getElem?_cons_succ, List.contains_cons, List.contains_nil, List.map_cons, List.map_nil, Bool.or_false, Bool.false_eq_true, dbin, dIntBin, okR, callG, row11, frz11, frzOf_def, frz_nil, beq_false, Bool.not_true, List.length_nil, List.length_cons, dcells, Nat.zero_add, Nat.reduceAdd, Int.natCast_nonneg, Int.toNat_natCast, and_self, gt_iff_lt, dStrBin, dp9, fp26_4, fa54_1, dp23, ia23, len23, len9, frz11b]
    | (refine drW_intro (by kernel_rfl) ?_)
    | (refine gw_intro (fun h => ?_) (fun h => ?_) <;> (try simp only [beq_true, beq_false, Bool.not_eq_eq_eq_not, Bool.not_true, Bool.not_false, Bool.not_not, decide_eq_true_eq, decide_eq_false_iff_not, ge_iff_le, gt_iff_lt] at h)))
                        refine hr2 _ ?_
                        refine hr _ ?_
                        repeat' (first
    | simp only [*, put_slot, put_room, put_box, endQ, endR, endV, rvars, rvar, room1, ↓reduceIte, List.map_nil, pureB, leaf, leafN, List.take_nil, List.range_zero, and_self]
    | (refine drW_intro (by kernel_rfl) ?_)
    | (refine gw_intro (fun h => ?_) (fun h => ?_) <;> (try simp only [beq_true, beq_false, Bool.not_eq_eq_eq_not, Bool.not_true, Bool.not_false, Bool.not_not, decide_eq_true_eq, decide_eq_false_iff_not, ge_iff_le, gt_iff_lt] at h)))
                      · rw [decide_eq_false d1] at hO3
                        by_cases d2 : (200 : Int) < a1.length
                        · rw [decide_eq_true d2] at hO3
                          simp only [Bool.true_or, Bool.or_true] at hO3
                          subst hO3
                          clear hn2 hx2 hR hn
                          repeat' (first
    | simp only [*, go_seq, go_cond, go_block, go_skip, go_retc, go_region, go_ops_nil, go_ops, okG_some, gwD_bool, cwD_bool, gw_true, gw_false, guardG, opG, isPtr, inB, sval, stake, eats, eaters, get, cval, cval1, croom, St.taken, put_slot, put_room, put_box, dem_none, setBox_slot, setBox_room, ↓reduceIte, Nat.reduceEqDiff, Nat.reduceLT, decide_true, decide_false, List.filterMap_cons, List.filterMap_nil, Option.bind_some, Option.map_some, List.getElem?_cons_zero, List.getElem?_cons_succ, List.contains_cons, List.contains_nil, List.map_cons, List.map_nil, beq_self_eq_true, Bool.or_false, Bool.false_eq_true, dbin, dIntBin, okR, callG, row11, frz11, frzOf_def, frz_nil, beq_false, Bool.not_true, List.length_nil, List.length_cons, dcells, Nat.zero_add, Nat.reduceAdd, Int.natCast_nonneg, Int.toNat_natCast, and_self, Nat.add_zero, gt_iff_lt, dStrBin, dp9, fp26_4, fa54_0, fa54_1, dp23, ia23, len23, len9, frz11b]
    | (refine drW_intro (by kernel_rfl) ?_)
    | (refine gw_intro (fun h => ?_) (fun h => ?_) <;> (try simp only [beq_true, beq_false, Bool.not_eq_eq_eq_not, Bool.not_true, Bool.not_false, Bool.not_not, decide_eq_true_eq, decide_eq_false_iff_not, ge_iff_le, gt_iff_lt] at h)))
                          refine hr2 _ ?_
                          refine hr _ ?_
                          repeat' (first
    | simp only [*, put_slot, put_room, put_box, endQ, endR, endV, rvars, rvar, room1, ↓reduceIte, List.map_nil, pureB, leaf, leafN, List.take_nil, List.range_zero, and_self]
    | (refine drW_intro (by kernel_rfl) ?_)
    | (refine gw_intro (fun h => ?_) (fun h => ?_) <;> (try simp only [beq_true, beq_false, Bool.not_eq_eq_eq_not, Bool.not_true, Bool.not_false, Bool.not_not, decide_eq_true_eq, decide_eq_false_iff_not, ge_iff_le, gt_iff_lt] at h)))
                        · rw [decide_eq_false d2] at hO3
                          by_cases d3 : (200 : Int) < a3.length
                          · rw [decide_eq_true d3] at hO3
                            simp only [Bool.true_or, Bool.or_true] at hO3
                            subst hO3
                            clear hn2 hx2 hR hn
                            repeat' (first
    | simp only [*, go_seq, go_cond, go_block, go_skip, go_retc, go_region, go_ops_nil, go_ops, okG_some, gwD_bool, cwD_bool, gw_true, guardG, opG, isPtr, inB, sval, stake, eats, eaters, get, cval, cval1, croom, St.taken, put_slot, put_room, put_box, dem_none, setBox_slot, setBox_room, ↓reduceIte, Nat.reduceEqDiff, Nat.reduceLT, decide_true, decide_false, List.filterMap_cons, List.filterMap_nil, Option.bind_some, Option.map_some, List.getElem?_cons_zero, List.getElem?_cons_succ, List.contains_cons, List.contains_nil, List.map_cons, List.map_nil, beq_self_eq_true, Bool.or_false, Bool.false_eq_true, dbin, dIntBin, okR, callG, row11, frz11, frzOf_def, frz_nil, List.length_nil, List.length_cons, dcells, Nat.zero_add, Nat.reduceAdd, Int.natCast_nonneg, Int.toNat_natCast, and_self, Nat.add_zero, gt_iff_lt, dStrBin, dp9, fp26_4, fa54_0, fa54_1, fa54_2, dp23, ia23, len23, len9, frz11b]
    | (refine drW_intro (by kernel_rfl) ?_)
    | (refine gw_intro (fun h => ?_) (fun h => ?_) <;> (try simp only [beq_true, beq_false, Bool.not_eq_eq_eq_not, Bool.not_true, Bool.not_false, Bool.not_not, decide_eq_true_eq, decide_eq_false_iff_not, ge_iff_le, gt_iff_lt] at h)))
                            refine hr2 _ ?_
                            refine hr _ ?_
                            repeat' (first
    | simp only [*, put_slot, put_room, put_box, endQ, endR, endV, rvars, rvar, room1, ↓reduceIte, List.map_nil, pureB, leaf, leafN, List.take_nil, List.range_zero, and_self]
    | (refine drW_intro (by kernel_rfl) ?_)
    | (refine gw_intro (fun h => ?_) (fun h => ?_) <;> (try simp only [beq_true, beq_false, Bool.not_eq_eq_eq_not, Bool.not_true, Bool.not_false, Bool.not_not, decide_eq_true_eq, decide_eq_false_iff_not, ge_iff_le, gt_iff_lt] at h)))
                          · rw [decide_eq_false d3] at hO3
                            simp only [Bool.false_or] at hO3
                            have HO4 := Hd.mk hO3
                            clear hO3 hr2 hx2 hn hr
                            repeat' (first
    | simp only [*, go_nil, go_seq, go_cond, go_block, go_blk, go_skip, go_region, go_ops_nil, go_ops, okG_some, gwD_bool, cwD_bool, gw_true, gw_false, guardG, opG, isPtr, inB, sval, stake, eats, eaters, get, cval, cval1, croom, St.taken, put_slot, put_room, put_box, dem_none, setBox_slot, setBox_room, ↓reduceIte, Nat.reduceEqDiff, Nat.reduceLT, decide_true, decide_false, List.filterMap_cons, List.filterMap_nil, Option.bind_some, Option.map_some, List.getElem?_cons_zero, List.getElem?_cons_succ, List.contains_cons, List.contains_nil, List.map_cons, List.map_nil, beq_self_eq_true, Bool.or_false, Nat.reduceBEq, Bool.false_eq_true, dbin, dIntBin, okR, callG, row11, frz11, frzOf_def, frz_nil, List.length_nil, List.length_cons, dcells, Nat.zero_add, Nat.reduceAdd, Int.natCast_nonneg, Int.toNat_natCast, and_self, Nat.add_zero, gt_iff_lt, dStrBin, dp9, fp26_4, fa54_0, fa54_1, fa54_2, dp23, ia23, len23, len9]
    | (refine drW_intro (by kernel_rfl) ?_)
    | (refine gw_intro (fun h => ?_) (fun h => ?_) <;> (try simp only [beq_true, beq_false, Bool.not_eq_eq_eq_not, Bool.not_true, Bool.not_false, Bool.not_not, decide_eq_true_eq, decide_eq_false_iff_not, ge_iff_le, gt_iff_lt] at h)))
                            refine hn2 _ ⟨j + 1, g, h2, ?_, ?_, ?_, ?_, ?_, ?_, ?_, HO4⟩ ?_
                            · simp only [*, put_slot, ↓reduceIte]
                            · simp only [*, put_slot, dem_slot, ↓reduceIte, Nat.reduceEqDiff]
                            · simp only [*, put_slot, dem_slot, ↓reduceIte, reduceCtorEq]
                            · simp only [*, put_slot, dem_slot, ↓reduceIte, Nat.reduceEqDiff]
                            · simp only [*, put_room, dem_room, ↓reduceIte, Nat.reduceEqDiff]
                            · simp only [*, put_slot, dem_slot, ↓reduceIte, Nat.reduceEqDiff]
                            · simp only [*, put_box, dem_box]
                            · simp only [slotI, *, put_slot, ↓reduceIte, Int.toNat_natCast]
                              omega
                    · have g9 : ¬ (j : Int) < a.length := by omega
                      have hO3 : R = ((a.drop j).any atG || (ns.drop (i + 1)).any ndG) := hO2
                      rw [any_end atG (by omega), Bool.false_or] at hO3
                      have HO4 := Hd.mk hO3
                      clear hO3 hO2 hr2 hn2 hr hla
                      repeat' (first
    | simp only [*, go_nil, go_seq, go_cond, go_exit, go_xcode, go_region, go_ops_nil, go_ops, okG_some, cwD_bool, gw_false, guardG, opG, isPtr, inB, sval, stake, eats, eaters, get, St.taken, put_slot, put_box, dem_none, ↓reduceIte, Nat.reduceEqDiff, Nat.reduceLT, decide_true, decide_false, List.filterMap_cons, List.filterMap_nil, Option.map_some, List.getElem?_cons_zero, List.getElem?_cons_succ, List.contains_cons, List.contains_nil, List.map_cons, List.map_nil, Bool.or_false, Bool.false_eq_true, dbin, dIntBin, row11, frz11, frzOf_def, frz_nil, Nat.zero_add, fp26_4, dp23, len23]
    | (refine drW_intro (by kernel_rfl) ?_)
    | (refine gw_intro (fun h => ?_) (fun h => ?_) <;> (try simp only [beq_true, beq_false, Bool.not_eq_eq_eq_not, Bool.not_true, Bool.not_false, Bool.not_not, decide_eq_true_eq, decide_eq_false_iff_not, ge_iff_le, gt_iff_lt] at h)))
                      refine hx2 _ _ ?_
                      repeat' (first
    | simp only [*, go_nil, go_blk, go_xblk, go_region, go_ops_nil, go_ops, okG_some, guardG, opG, inB, sval, stake, eats, eaters, get, cval, cval1, St.taken, put_slot, put_room, dem_none, ↓reduceIte, Nat.reduceEqDiff, Nat.reduceLT, decide_true, List.filterMap_cons, List.filterMap_nil, Option.map_some, List.contains_cons, List.contains_nil, Bool.or_false, Nat.reduceBEq, Bool.false_eq_true, dbin, dIntBin, row11, frz11, frzOf_def, frz_nil]
    | (refine drW_intro (by kernel_rfl) ?_)
    | (refine gw_intro (fun h => ?_) (fun h => ?_) <;> (try simp only [beq_true, beq_false, Bool.not_eq_eq_eq_not, Bool.not_true, Bool.not_false, Bool.not_not, decide_eq_true_eq, decide_eq_false_iff_not, ge_iff_le, gt_iff_lt] at h)))
                      have hi2 : i < ns.length := HI
                      refine hn _ ⟨i + 1, hi2, ?_, ?_, ?_, ?_, HO4⟩ ?_
                      · simp only [*, put_slot, ↓reduceIte]
                      · simp only [*, put_slot, dem_slot, ↓reduceIte, reduceCtorEq]
                      · simp only [*, put_slot, dem_slot, ↓reduceIte, Nat.reduceEqDiff]
                      · simp only [*, put_room, dem_room, ↓reduceIte, Nat.reduceEqDiff]
                      · have g5 : st.slot 5 = .int .i64 i := G5
                        simp only [slotI, *, put_slot, ↓reduceIte, Int.toNat_natCast, gt_iff_lt]
                        omega
      · have g9 : ¬ (i : Int) < ns.length := by omega
        have hO' : R = (ns.drop i).any ndG := hO
        rw [any_end ndG (by omega)] at hO'
        subst hO'
        clear hO hn hr hl hR
        repeat' (first
    | simp only [*, go_nil, go_seq, go_cond, go_exit, go_xcode, go_region, go_ops_nil, go_ops, okG_some, cwD_bool, gw_false, guardG, opG, isPtr, inB, sval, stake, eats, eaters, get, St.taken, put_slot, dem_none, ↓reduceIte, Nat.reduceEqDiff, Nat.reduceLT, reduceCtorEq, decide_true, decide_false, List.filterMap_cons, List.filterMap_nil, Option.map_some, List.contains_cons, List.contains_nil, List.map_cons, List.map_nil, Bool.or_false, Bool.false_eq_true, dbin, dIntBin, row11, frz11, frzOf_def, frz_nil, len22]
    | (refine drW_intro (by kernel_rfl) ?_)
    | (refine gw_intro (fun h => ?_) (fun h => ?_) <;> (try simp only [beq_true, beq_false, Bool.not_eq_eq_eq_not, Bool.not_true, Bool.not_false, Bool.not_not, decide_eq_true_eq, decide_eq_false_iff_not, ge_iff_le, gt_iff_lt] at h)))
        refine hx _ _ ?_
        repeat' (first
    | simp only [*, go_seq, go_retc, go_xblk, go_region, go_ops_nil, go_ops, okG_some, guardG, opG, inB, sval, stake, eats, eaters, get, cval, cval1, croom, put_slot, put_room, put_box, dem_none, endQ, endR, endV, rvars, rvar, room1, ↓reduceIte, Nat.reduceLT, decide_true, List.filterMap_cons, List.filterMap_nil, List.contains_cons, List.contains_nil, List.map_nil, Bool.or_false, Bool.false_eq_true, row11, frz_nil, pureB, leaf, leafN, List.take_nil, List.range_zero, and_self, frz11b]
    | (refine drW_intro (by kernel_rfl) ?_)
    | (refine gw_intro (fun h => ?_) (fun h => ?_) <;> (try simp only [beq_true, beq_false, Bool.not_eq_eq_eq_not, Bool.not_true, Bool.not_false, Bool.not_not, decide_eq_true_eq, decide_eq_false_iff_not, ge_iff_le, gt_iff_lt] at h)))
end Go.Av
/- Chapter 11: the example of the document. -/
namespace Go.Av
open Go.Proofs Go.RowKit Go.Proofs.YtdbimjpjpgfeeaaDoor
noncomputable def chkA (es : List D) : Bool := match aev Tryd.prog ext11a 300 24 [.list es] [] with
  | some (.con .nilIface, _, []) => true
  | _ => false
theorem chkA_ok : ChkOK chkA := by
  intro es _ h
  unfold chkA at h
  split at h
  · rename_i r he
    exact ⟨300, r, he⟩
  · cases h
theorem ext11_ok : CallOK Tryd.prog (ext11b chkA) := ext11b_ok chkA_ok
theorem speaks11 : aev Tryd.prog (ext11b chkA) 300 7 [] [] = some (.bool true, [.no], []) := by kernel_rfl
end Go.Av
/- Chapter 11: small documents, as Great says; the law's copied. -/
set_option linter.unusedVariables false
namespace Go.Av
open Go.Proofs
theorem callL_ext {P : Program} [Gs] {ext : Call} {f : FuncId} {args : List D} {pbs : List Bx} {r : D × List Room × List Bx} (h : ext f args pbs = some r) : callL P ext f args pbs = some r :=
  aev_callL (N := 1) (by simp only [aev, h])
theorem sp11 : callL Tryd.prog (ext11b chkA) 7 [] [] = some (.bool true, [.no], []) := aev_callL speaks11
variable {chk : List D → Bool}
theorem great_small {ns : List Nd} {m : Nat} (h : greatF ns m = false) (hm : m ≤ 10000) : Small ns := by
  unfold greatF at h
  simp only [Bool.or_eq_false_iff, decide_eq_false_iff_not, List.any_eq_false] at h
  refine ⟨by omega, fun n hn => ?_⟩
  have h1 := h.2 n hn
  unfold ndG ndG0 at h1
  simp only [Bool.or_eq_true, decide_eq_true_eq, not_or] at h1
  omega
theorem nodes_ok {ns : List Nd} (h : Small ns) : nodesOk (ns.map Nd.d) = true := by
  unfold nodesOk
  simp only [Bool.and_eq_true, List.all_eq_true, decide_eq_true_eq, List.length_map]
  refine ⟨fun e he => ?_, h.1⟩
  obtain ⟨n, hn, rfl⟩ := List.mem_map.1 he
  have h2 := h.2 n hn
  show ((n.at_.map At.d).all (fun e => (dcells e).length == 3) && (n.st.map D.str).all (fun e => (dcells e).length == 1) && decide ((n.at_.map At.d).length ≤ 1000000) && decide ((n.st.map D.str).length ≤ 1000000)) = true
  simp only [Bool.and_eq_true, List.all_eq_true, decide_eq_true_eq, List.length_map]
  refine ⟨⟨⟨?_, ?_⟩, h2.1⟩, h2.2⟩ <;> intro e he <;> obtain ⟨x, _, rfl⟩ := List.mem_map.1 he <;> rfl
theorem lcop_L (ns : List Nd) (h : Small ns) : callL Tryd.prog (ext11b chk) 19 [.list (ns.map Nd.d)] [] = some (.list (ns.map Nd.d), [], []) := by
  refine callL_ext ?_
  show (if nodesOk (ns.map Nd.d) = true then some (D.list (ns.map Nd.d), ([] : List Room), ([] : List Bx)) else none) = _
  rw [if_pos (nodes_ok h)]
end Go.Av
/- Chapter 11: which nodes are right, both texts. -/
set_option linter.unusedSimpArgs false
set_option linter.unusedVariables false
set_option linter.unusedSectionVars false
set_option maxRecDepth 100000
namespace Go.Av
open Go.Proofs
variable {chk : List D → Bool}
open Go.Proofs.YtdbimjpjpgfeeaaDoor
def bytesI (s : List UInt8) : List Int := s.map fun b => (b.toNat : Int)
def goodB (s : List UInt8) : Bool := rGood (bytesI s)
theorem bytesI_ok (s : List UInt8) : BytesOK (bytesI s) := by
  intro i hi
  have hi' : i < s.length := by simpa [bytesI] using hi
  have : (bytesI s).getD i 0 = (s[i].toNat : Int) := by simp [bytesI, List.getD, hi']
  rw [this]
  have := s[i].toNat_lt
  omega
theorem bytesI_len (s : List UInt8) : (bytesI s).length = s.length := by simp [bytesI]
theorem bytesI_d (s : List UInt8) : (s.map fun b => D.int .u8 (b.toNat : Int)) = (bytesI s).map (D.int .u8) := by simp [bytesI]
theorem byI_of : ∀ (zs : List Int), BytesOK zs → byI (zs.map (D.int .u8)) = some zs
  | [], _ => rfl
  | z :: r, h => by
    have h0 := h 0 (by simp)
    have hr : BytesOK r := fun i hi => by have := h (i + 1) (by simpa using hi); simpa using this
    simp only [List.getD_cons_zero] at h0
    show (if 0 ≤ z ∧ z < 256 then (byI (r.map (D.int .u8))).map (z :: ·) else none) = _
    rw [if_pos h0, byI_of r hr]
    rfl
theorem good_L (s : List UInt8) (hl : s.length ≤ 140737488355328) : callL Tryd.prog (ext11b chk) 45 [.list (s.map fun b => .int .u8 b.toNat)] [] = some (.bool (goodB s), [], []) := by
  refine callL_ext ?_
  rw [bytesI_d]
  show (match byI ((bytesI s).map (D.int .u8)) with | some zs => if zs.length ≤ 140737488355328 then some (D.bool (rGood zs), ([] : List Room), ([] : List Bx)) else none | none => none) = _
  rw [byI_of _ (bytesI_ok s)]
  show (if (bytesI s).length ≤ 140737488355328 then some (D.bool (rGood (bytesI s)), ([] : List Room), ([] : List Bx)) else none) = _
  rw [if_pos (by rw [bytesI_len]; exact hl)]
  rfl
theorem right81_L (s : List UInt8) (hl : s.length ≤ 1000000) : callL Tryd.prog (ext11b chk) 65 [.list (s.map fun b => .int .u8 b.toNat)] [] = some (.bool (goodB s), [.no], []) := by
  have h := right_L (chk := chk) (bytesI s) (bytesI_ok s) (by rw [bytesI_len]; omega)
  rw [← good_valid (bytesI s).length _ (Nat.le_refl _) (bytesI_ok s)] at h
  rw [bytesI_d]
  exact h
theorem dright_L (s : List UInt8) (hl : s.length ≤ 1000000) : callL Tryd.prog (ext11b chk) 53 [.str s] [] = some (.bool (goodB s), [.no], []) := by
  have h := right81_L (chk := chk) s hl
  clear hl
  generalize goodB s = R at *
  refine callK (m := 6) (res := [2]) (rs := [.tmp 2]) rfl Tryd.func53 rfl rfl rfl rfl rfl ?_
  repeat' (first
    | simp only [*, go_seq, go_retc, go_region, go_ops_nil, go_ops, okG_some, guardG, opG, isPtr, inB, sval, stake, eats, eaters, get, cval, cval1, croom, St.taken, put_slot, put_room, put_box, dem_none, dem_box, entry_slot, entry_box, endQ, endR, endV, rvars, rvar, room1, ↓reduceIte, Nat.reduceLT, reduceCtorEq, decide_true, List.filterMap_cons, List.filterMap_nil, Option.map_some, List.getD_cons_zero, List.contains_cons, List.contains_nil, List.map_cons, List.map_nil, beq_self_eq_true, Bool.or_false, Bool.and_true, Nat.reduceBEq, Bool.false_eq_true, okR, callG, row11, frz11, frzOf_def, frz_nil, pureB, leaf, leafN, List.all_cons, List.all_nil, List.nil_append, List.append_nil, List.take_nil, List.range_zero, List.length_nil, List.getElem?_nil, List.take_succ_cons, and_self, cv981, frz11b]
    | (refine drW_intro (by kernel_rfl) ?_)
    | (refine gw_intro (fun h => ?_) (fun h => ?_) <;> (try simp only [beq_true, beq_false, Bool.not_eq_eq_eq_not, Bool.not_true, Bool.not_false, Bool.not_not, decide_eq_true_eq, decide_eq_false_iff_not, ge_iff_le, gt_iff_lt] at h)))
theorem rright_L (s : List UInt8) (hl : s.length ≤ 140737488355328) : callL Tryd.prog (ext11b chk) 27 [.str s] [] = some (.bool (goodB s), [.no], []) := by
  have h := good_L (chk := chk) s hl
  clear hl
  generalize goodB s = R at *
  refine callK (m := 6) (res := [2]) (rs := [.tmp 2]) rfl Tryd.func27 rfl rfl rfl rfl rfl ?_
  repeat' (first
    | simp only [*, go_seq, go_retc, go_region, go_ops_nil, go_ops, okG_some, guardG, opG, isPtr, inB, sval, stake, eats, eaters, get, cval, cval1, croom, St.taken, put_slot, put_room, put_box, dem_none, dem_box, entry_slot, entry_box, endQ, endR, endV, rvars, rvar, room1, ↓reduceIte, Nat.reduceLT, reduceCtorEq, decide_true, List.filterMap_cons, List.filterMap_nil, Option.map_some, List.getD_cons_zero, List.contains_cons, List.contains_nil, List.map_cons, List.map_nil, beq_self_eq_true, Bool.or_false, Bool.and_true, Nat.reduceBEq, Bool.false_eq_true, okR, callG, row11, frz11, frzOf_def, frz_nil, pureB, leaf, leafN, List.all_cons, List.all_nil, List.nil_append, List.append_nil, List.take_nil, List.range_zero, List.length_nil, List.getElem?_nil, and_self, cv981, frz11b]
    | (refine drW_intro (by kernel_rfl) ?_)
    | (refine gw_intro (fun h => ?_) (fun h => ?_) <;> (try simp only [beq_true, beq_false, Bool.not_eq_eq_eq_not, Bool.not_true, Bool.not_false, Bool.not_not, decide_eq_true_eq, decide_eq_false_iff_not, ge_iff_le, gt_iff_lt] at h)))
/-- The place of the first one that is so, from a place on; -1: there is none. -/
def idxN {α : Type} (f : α → Bool) : Nat → List α → Int
  | _, [] => -1
  | k, a :: r => if f a = true then (k : Int) else idxN f (k + 1) r
theorem idxN_at {α : Type} {xs : List α} {i : Nat} {x : α} (f : α → Bool) (hx : xs[i]? = some x) : idxN f i (xs.drop i) = if f x = true then (i : Int) else idxN f (i + 1) (xs.drop (i + 1)) := by
  have h1 : i < xs.length := (List.getElem?_eq_some_iff.1 hx).1
  have e1 : xs[i] = x := (List.getElem?_eq_some_iff.1 hx).2
  rw [List.drop_eq_getElem_cons h1, e1, idxN]
theorem idxN_end {α : Type} {xs : List α} {i : Nat} (f : α → Bool) (h : xs.length ≤ i) : idxN f i (xs.drop i) = -1 := by
  rw [List.drop_eq_nil_of_le h]
  rfl
theorem idxN_ge {α : Type} (f : α → Bool) : ∀ (xs : List α) (k : Nat), decide (idxN f k xs ≥ 0) = xs.any f
  | [], _ => rfl
  | a :: r, k => by
    rw [idxN, List.any_cons]
    cases h : f a with
    | true => simp
    | false => simpa using idxN_ge f r (k + 1)
def sameN (sp nm : List UInt8) (a : At) : Bool := a.sp == sp && a.nm == nm
theorem attr1_L (a : At) (sp nm : List UInt8) : callL Tryd.prog (ext11b chk) 63 [.agg [.str a.sp, .str a.nm, .str a.vl], .fix (.agg [.str sp]) 0, .fix (.agg [.str nm]) 0] [] = some (.bool (sameN sp nm a), [.no], []) := by
  unfold sameN
  obtain ⟨a1, a2, a3⟩ := a
  simp only []
  cases h1 : (a1 == sp) with
  | false =>
    refine callK (m := 15) (res := [4]) (rs := [.tmp 4]) rfl Tryd.func63 rfl rfl rfl rfl rfl ?_
    repeat' (first
    | simp only [*, go_seq, go_retc, go_region, go_ops_nil, go_ops, okG_some, okB_some, gwD_bool, gw_false, guardG, opG, inB, sval, stake, eats, eaters, get, cval, cval1, croom, St.taken, put_slot, put_room, put_box, dem_none, dem_box, setBox_slot, setBox_room, setBox_box, entry_slot, entry_box, entry_ctr, endQ, endR, endV, rvars, rvar, room1, ↓reduceIte, Nat.reduceEqDiff, Nat.reduceLT, decide_true, List.filterMap_cons, List.filterMap_nil, Option.bind_some, Option.map_some, List.getElem?_cons_zero, List.getElem?_cons_succ, List.getD_cons_zero, List.getD_cons_succ, List.contains_cons, List.contains_nil, List.map_nil, beq_self_eq_true, Bool.or_false, Bool.and_true, Nat.reduceBEq, Bool.false_eq_true, dbin, dIntBin, row11, frz11, frzOf_def, frz_nil, beq_true, pureB, leaf, leafN, List.all_cons, List.all_nil, List.take_nil, List.range_zero, List.length_nil, List.length_cons, List.getElem?_nil, dcells, Nat.zero_add, Nat.reduceAdd, stepBox, Bool.false_and, and_self, Nat.add_zero, dStrBin, dp9, ty54, fp54_0]
    | (refine drW_intro (by kernel_rfl) ?_)
    | (refine gw_intro (fun h => ?_) (fun h => ?_) <;> (try simp only [beq_true, beq_false, Bool.not_eq_eq_eq_not, Bool.not_true, Bool.not_false, Bool.not_not, decide_eq_true_eq, decide_eq_false_iff_not, ge_iff_le, gt_iff_lt] at h)))
  | true =>
    cases h2 : (a2 == nm) with
    | false =>
      refine callK (m := 15) (res := [4]) (rs := [.tmp 4]) rfl Tryd.func63 rfl rfl rfl rfl rfl ?_
      repeat' (first
    | simp only [*, go_seq, go_retc, go_region, go_ops_nil, go_ops, okG_some, okB_some, gwD_bool, gw_true, guardG, opG, inB, sval, stake, eats, eaters, get, cval, cval1, croom, St.taken, put_slot, put_room, put_box, dem_none, dem_box, setBox_slot, setBox_room, setBox_box, entry_slot, entry_box, entry_ctr, endQ, endR, endV, rvars, rvar, room1, ↓reduceIte, Nat.reduceEqDiff, Nat.reduceLT, decide_true, List.filterMap_cons, List.filterMap_nil, Option.bind_some, Option.map_some, List.getElem?_cons_zero, List.getElem?_cons_succ, List.getD_cons_zero, List.getD_cons_succ, List.contains_cons, List.contains_nil, List.map_nil, beq_self_eq_true, Bool.or_false, Bool.and_true, Nat.reduceBEq, Bool.false_eq_true, dbin, dIntBin, row11, frz11, frzOf_def, frz_nil, pureB, leaf, leafN, List.all_cons, List.all_nil, List.take_nil, List.range_zero, List.length_nil, List.length_cons, List.getElem?_nil, dcells, Nat.zero_add, Nat.reduceAdd, stepBox, Bool.and_false, and_self, Nat.add_zero, dStrBin, dp9, ty54, fp54_0, fp54_1]
    | (refine drW_intro (by kernel_rfl) ?_)
    | (refine gw_intro (fun h => ?_) (fun h => ?_) <;> (try simp only [beq_true, beq_false, Bool.not_eq_eq_eq_not, Bool.not_true, Bool.not_false, Bool.not_not, decide_eq_true_eq, decide_eq_false_iff_not, ge_iff_le, gt_iff_lt] at h)))
    | true =>
      refine callK (m := 15) (res := [4]) (rs := [.tmp 4]) rfl Tryd.func63 rfl rfl rfl rfl rfl ?_
      repeat' (first
    | simp only [*, go_seq, go_retc, go_region, go_ops_nil, go_ops, okG_some, okB_some, gwD_bool, gw_true, guardG, opG, inB, sval, stake, eats, eaters, get, cval, cval1, croom, St.taken, put_slot, put_room, put_box, dem_none, dem_box, setBox_slot, setBox_room, setBox_box, entry_slot, entry_box, entry_ctr, endQ, endR, endV, rvars, rvar, room1, ↓reduceIte, Nat.reduceEqDiff, Nat.reduceLT, decide_true, List.filterMap_cons, List.filterMap_nil, Option.bind_some, Option.map_some, List.getElem?_cons_zero, List.getElem?_cons_succ, List.getD_cons_zero, List.getD_cons_succ, List.contains_cons, List.contains_nil, List.map_nil, beq_self_eq_true, Bool.or_false, Bool.and_true, Nat.reduceBEq, Bool.false_eq_true, dbin, dIntBin, row11, frz11, frzOf_def, frz_nil, pureB, leaf, leafN, List.all_cons, List.all_nil, List.take_nil, List.range_zero, List.length_nil, List.length_cons, List.getElem?_nil, dcells, Nat.zero_add, Nat.reduceAdd, stepBox, and_self, Nat.add_zero, dStrBin, dp9, ty54, fp54_0, fp54_1]
    | (refine drW_intro (by kernel_rfl) ?_)
    | (refine gw_intro (fun h => ?_) (fun h => ?_) <;> (try simp only [beq_true, beq_false, Bool.not_eq_eq_eq_not, Bool.not_true, Bool.not_false, Bool.not_not, decide_eq_true_eq, decide_eq_false_iff_not, ge_iff_le, gt_iff_lt] at h)))
set_option maxHeartbeats 4000000 in
theorem idxf_L (l : List At) (sp nm : List UInt8) (hl : l.length ≤ 1000000) : callL Tryd.prog (ext11b chk) 62 [.list (l.map At.d), .func (.func 63) [] [.fix (.agg [.str sp]) 0, .fix (.agg [.str nm]) 0]] [] = some (.int .i64 (idxN (sameN sp nm) 0 l), [.no], []) := by
  have lN := lenM l At.d
  refine callK (m := 19) (res := [4]) (rs := [.tmp 4]) rfl Tryd.func62 rfl rfl rfl rfl rfl ?_
  have HL := Hd.mk hl
  clear hl
  obtain ⟨R, hR⟩ : ∃ R, Hd (R = idxN (sameN sp nm) 0 l) := ⟨_, rfl⟩
  rw [← (show R = idxN (sameN sp nm) 0 l from hR)]
  repeat' (first
    | simp only [*, go_seq, go_block, go_loop, go_region, go_ops_nil, go_ops, okG_some, guardG, opG, isPtr, inB, sval, stake, eats, eaters, get, cval, cval1, croom, St.taken, put_slot, dem_none, entry_slot, ↓reduceIte, Nat.reduceLT, reduceCtorEq, decide_true, List.filterMap_cons, List.filterMap_nil, Option.map_some, List.getD_cons_zero, List.contains_cons, List.contains_nil, List.map_cons, List.map_nil, Bool.or_false, Bool.false_eq_true, row11, frz11, frzOf_def, frz_nil, List.length_nil, len23, frz11b]
    | (refine drW_intro (by kernel_rfl) ?_)
    | (refine gw_intro (fun h => ?_) (fun h => ?_) <;> (try simp only [beq_true, beq_false, Bool.not_eq_eq_eq_not, Bool.not_true, Bool.not_false, Bool.not_not, decide_eq_true_eq, decide_eq_false_iff_not, ge_iff_le, gt_iff_lt] at h)))
  refine loopH (fun st => ∃ i : Nat, i ≤ l.length ∧ st.slot 8 = .int .i64 i ∧ st.slot 7 = .int .i64 l.length ∧ st.slot 0 = .list (l.map At.d) ∧ st.slot 1 = .func (.func 63) [] [.fix (.agg [.str sp]) 0, .fix (.agg [.str nm]) 0] ∧ st.slot 4 = .int .i64 0 ∧ st.room 4 = [] ∧ Hd (R = idxN (sameN sp nm) i (l.drop i))) (fun st => l.length - slotI st 8) ?_ ?_
  · refine ⟨0, Nat.zero_le _, ?_, ?_, ?_, ?_, ?_, ?_, hR⟩
    all_goals simp only [*, put_slot, put_room, entry_slot, ↓reduceIte, Nat.reduceEqDiff, reduceCtorEq, List.getD_cons_zero, List.getD_cons_succ]
    all_goals rfl
  · rintro st K ⟨i, hi, g0, g1, g2, g3, g4, g5, hO⟩ hn hx hr
    have hl : l.length ≤ 1000000 := HL
    have hO' : R = idxN (sameN sp nm) i (l.drop i) := hO
    by_cases h : i < l.length
    · have g9 : (i : Int) < l.length := by omega
      have hw := wrapS i (by omega)
      obtain ⟨x, hx1⟩ := some_at h
      rw [idxN_at _ hx1] at hO'
      have ha := getD_map (f := At.d) hx1
      obtain ⟨a1, a2, a3⟩ := x
      have ha2 : (l.map At.d).getD i .bad = .agg [.str a1, .str a2, .str a3] := ha
      clear ha
      have hc : callL Tryd.prog (ext11b chk) 63 [.agg [.str a1, .str a2, .str a3], .fix (.agg [.str sp]) 0, .fix (.agg [.str nm]) 0] [] = some (.bool (sameN sp nm ⟨a1, a2, a3⟩), [.no], []) := attr1_L ⟨a1, a2, a3⟩ sp nm
      cases he : sameN sp nm ⟨a1, a2, a3⟩ with
      | true =>
        rw [he] at hO' hc
        rw [if_pos rfl] at hO'
        subst hO'
        clear hO hn hx hl hx1 hR
        repeat' (first
    | simp only [*, go_seq, go_cond, go_block, go_skip, go_retc, go_region, go_ops_nil, go_ops, okG_some, cwD_bool, gw_true, guardG, opG, isPtr, inB, sval, stake, eats, eaters, get, St.taken, put_slot, put_room, dem_none, dem_slot, ↓reduceIte, Nat.reduceEqDiff, Nat.reduceLT, reduceCtorEq, decide_true, List.filterMap_cons, List.filterMap_nil, Option.map_some, List.contains_cons, List.contains_nil, List.map_cons, List.map_nil, beq_self_eq_true, Bool.or_false, Bool.and_true, Nat.reduceBEq, Bool.false_eq_true, dbin, dIntBin, okR, callG, row11, frz11, frzOf_def, frz_nil, pureB, leaf, leafN, List.all_cons, List.all_nil, List.nil_append, List.cons_append, List.length_nil, List.length_cons, dcells, Nat.zero_add, Nat.reduceAdd, Int.natCast_nonneg, Int.toNat_natCast, and_self, dp54, ia23, frz11b]
    | (refine drW_intro (by kernel_rfl) ?_)
    | (refine gw_intro (fun h => ?_) (fun h => ?_) <;> (try simp only [beq_true, beq_false, Bool.not_eq_eq_eq_not, Bool.not_true, Bool.not_false, Bool.not_not, decide_eq_true_eq, decide_eq_false_iff_not, ge_iff_le, gt_iff_lt] at h)))
        refine hr _ ?_
        repeat' (first
    | simp only [*, put_slot, put_room, put_box, dem_box, endQ, endR, endV, rvars, rvar, room1, ↓reduceIte, List.map_nil, pureB, leaf, leafN, List.take_nil, List.range_zero, and_self]
    | (refine drW_intro (by kernel_rfl) ?_)
    | (refine gw_intro (fun h => ?_) (fun h => ?_) <;> (try simp only [beq_true, beq_false, Bool.not_eq_eq_eq_not, Bool.not_true, Bool.not_false, Bool.not_not, decide_eq_true_eq, decide_eq_false_iff_not, ge_iff_le, gt_iff_lt] at h)))
      | false =>
        rw [he] at hO' hc
        rw [if_neg (by decide)] at hO'
        have HO := Hd.mk hO'
        clear hO hO' hx hr hl hx1
        repeat' (first
    | simp only [*, go_nil, go_seq, go_cond, go_block, go_blk, go_skip, go_region, go_ops_nil, go_ops, okG_some, cwD_bool, gw_true, gw_false, guardG, opG, isPtr, inB, sval, stake, eats, eaters, get, cval, cval1, St.taken, put_slot, put_room, dem_none, dem_slot, ↓reduceIte, Nat.reduceEqDiff, Nat.reduceLT, reduceCtorEq, decide_true, List.filterMap_cons, List.filterMap_nil, Option.map_some, List.contains_cons, List.contains_nil, List.map_cons, List.map_nil, Bool.or_false, Bool.and_true, Nat.reduceBEq, Bool.false_eq_true, dbin, dIntBin, okR, callG, row11, frz11, frzOf_def, frz_nil, pureB, leaf, leafN, List.all_cons, List.all_nil, List.nil_append, List.cons_append, List.length_nil, List.length_cons, dcells, Nat.zero_add, Nat.reduceAdd, Int.natCast_nonneg, Int.toNat_natCast, and_self, dp54, ia23, frz11b]
    | (refine drW_intro (by kernel_rfl) ?_)
    | (refine gw_intro (fun h => ?_) (fun h => ?_) <;> (try simp only [beq_true, beq_false, Bool.not_eq_eq_eq_not, Bool.not_true, Bool.not_false, Bool.not_not, decide_eq_true_eq, decide_eq_false_iff_not, ge_iff_le, gt_iff_lt] at h)))
        refine hn _ ⟨i + 1, h, ?_, ?_, ?_, ?_, ?_, ?_, HO⟩ ?_
        · simp only [*, put_slot, ↓reduceIte]
        · simp only [*, put_slot, dem_slot, ↓reduceIte, Nat.reduceEqDiff]
        · simp only [*, put_slot, dem_slot, ↓reduceIte, reduceCtorEq]
        · simp only [*, put_slot, dem_slot, ↓reduceIte, Nat.reduceEqDiff]
        · simp only [*, put_slot, dem_slot, ↓reduceIte, Nat.reduceEqDiff]
        · simp only [*, put_room, dem_room, ↓reduceIte, Nat.reduceEqDiff]
        · simp only [slotI, *, put_slot, ↓reduceIte, Int.toNat_natCast]
          omega
    · have g9 : ¬ (i : Int) < l.length := by omega
      rw [idxN_end _ (by omega)] at hO'
      subst hO'
      clear hO hn hr hl hR
      repeat' (first
    | simp only [*, go_nil, go_seq, go_cond, go_exit, go_xcode, go_region, go_ops_nil, go_ops, okG_some, cwD_bool, gw_false, guardG, opG, inB, sval, stake, eats, eaters, get, put_slot, dem_none, ↓reduceIte, Nat.reduceLT, decide_true, decide_false, List.filterMap_cons, List.filterMap_nil, Option.map_some, List.contains_cons, List.contains_nil, Bool.or_false, Bool.false_eq_true, dbin, dIntBin, row11, frz_nil, frz11b]
    | (refine drW_intro (by kernel_rfl) ?_)
    | (refine gw_intro (fun h => ?_) (fun h => ?_) <;> (try simp only [beq_true, beq_false, Bool.not_eq_eq_eq_not, Bool.not_true, Bool.not_false, Bool.not_not, decide_eq_true_eq, decide_eq_false_iff_not, ge_iff_le, gt_iff_lt] at h)))
      refine hx _ _ ?_
      repeat' (first
    | simp only [*, go_seq, go_retc, go_xblk, go_region, go_ops_nil, go_ops, okG_some, guardG, opG, inB, sval, stake, eats, eaters, get, cval, cval1, croom, put_slot, put_room, put_box, dem_none, endQ, endR, endV, rvars, rvar, room1, ↓reduceIte, Nat.reduceLT, decide_true, List.filterMap_cons, List.filterMap_nil, List.contains_cons, List.contains_nil, List.map_nil, Bool.or_false, Bool.false_eq_true, row11, frz_nil, pureB, leaf, leafN, List.take_nil, List.range_zero, and_self, frz11b]
    | (refine drW_intro (by kernel_rfl) ?_)
    | (refine gw_intro (fun h => ?_) (fun h => ?_) <;> (try simp only [beq_true, beq_false, Bool.not_eq_eq_eq_not, Bool.not_true, Bool.not_false, Bool.not_not, decide_eq_true_eq, decide_eq_false_iff_not, ge_iff_le, gt_iff_lt] at h)))
theorem attr_L (l : List At) (sp nm : List UInt8) (hl : l.length ≤ 1000000) : callL Tryd.prog (ext11b chk) 51 [.list (l.map At.d), .str sp, .str nm] [] = some (.int .i64 (idxN (sameN sp nm) 0 l), [.no], []) := by
  have h := idxf_L (chk := chk) l sp nm hl
  clear hl
  generalize idxN (sameN sp nm) 0 l = R at *
  generalize l.map At.d = L at *
  refine callK (m := 10) (res := [6]) (rs := [.tmp 6]) rfl Tryd.func51 rfl rfl rfl rfl rfl ?_
  repeat' (first
    | simp only [*, upd, go_seq, go_retc, go_region, go_ops_nil, go_ops, okG_some, okB_some, guardG, opG, isPtr, inB, sval, stake, eats, eaters, get, cval, cval1, croom, St.taken, put_slot, put_room, put_box, put_ctr, dem_none, dem_box, setBox_slot, setBox_room, setBox_box, entry_slot, entry_box, entry_ctr, endQ, endR, endV, rvars, rvar, room1, ↓reduceIte, Nat.reduceEqDiff, Nat.reduceLT, reduceCtorEq, decide_true, List.filterMap_cons, List.filterMap_nil, List.getD_cons_zero, List.getD_cons_succ, List.contains_cons, List.contains_nil, List.map_cons, List.map_nil, beq_self_eq_true, Bool.or_false, Bool.and_true, Nat.reduceBEq, Bool.false_eq_true, okR, callG, row11, frz11, frzOf_def, frz_nil, frz_cons, frzD, pureB, leaf, leafN, List.all_cons, List.all_nil, List.nil_append, List.append_nil, List.take_nil, List.range_zero, List.length_nil, List.length_cons, List.getElem?_nil, List.take_succ_cons, dcells, Nat.zero_add, Nat.reduceAdd, stepBox, and_self, St.freeze, ty9]
    | (refine drW_intro (by kernel_rfl) ?_)
    | (refine gw_intro (fun h => ?_) (fun h => ?_) <;> (try simp only [beq_true, beq_false, Bool.not_eq_eq_eq_not, Bool.not_true, Bool.not_false, Bool.not_not, decide_eq_true_eq, decide_eq_false_iff_not, ge_iff_le, gt_iff_lt] at h)))
set_option maxHeartbeats 4000000 in
theorem index_L (l : List (List UInt8)) (v : List UInt8) (hl : l.length ≤ 1000000) : callL Tryd.prog (ext11b chk) 64 [.list (l.map D.str), .str v] [] = some (.int .i64 (idxN (v == ·) 0 l), [.no], []) := by
  have lN := lenM l D.str
  refine callK (m := 19) (res := [4]) (rs := [.tmp 4]) rfl Tryd.func64 rfl rfl rfl rfl rfl ?_
  have HL := Hd.mk hl
  clear hl
  obtain ⟨R, hR⟩ : ∃ R, Hd (R = idxN (v == ·) 0 l) := ⟨_, rfl⟩
  rw [← (show R = idxN (v == ·) 0 l from hR)]
  repeat' (first
    | simp only [*, go_seq, go_block, go_loop, go_region, go_ops_nil, go_ops, okG_some, guardG, opG, isPtr, inB, sval, stake, eats, eaters, get, cval, cval1, croom, St.taken, put_slot, dem_none, entry_slot, ↓reduceIte, Nat.reduceLT, reduceCtorEq, decide_true, List.filterMap_cons, List.filterMap_nil, Option.map_some, List.getD_cons_zero, List.contains_cons, List.contains_nil, List.map_cons, List.map_nil, Bool.or_false, Bool.false_eq_true, row11, frz11, frzOf_def, frz_nil, List.length_nil, len24, frz11b]
    | (refine drW_intro (by kernel_rfl) ?_)
    | (refine gw_intro (fun h => ?_) (fun h => ?_) <;> (try simp only [beq_true, beq_false, Bool.not_eq_eq_eq_not, Bool.not_true, Bool.not_false, Bool.not_not, decide_eq_true_eq, decide_eq_false_iff_not, ge_iff_le, gt_iff_lt] at h)))
  refine loopH (fun st => ∃ i : Nat, i ≤ l.length ∧ st.slot 8 = .int .i64 i ∧ st.slot 7 = .int .i64 l.length ∧ st.slot 0 = .list (l.map D.str) ∧ st.slot 1 = .str v ∧ st.slot 4 = .int .i64 0 ∧ st.room 4 = [] ∧ Hd (R = idxN (v == ·) i (l.drop i))) (fun st => l.length - slotI st 8) ?_ ?_
  · refine ⟨0, Nat.zero_le _, ?_, ?_, ?_, ?_, ?_, ?_, hR⟩
    all_goals simp only [*, put_slot, put_room, entry_slot, ↓reduceIte, Nat.reduceEqDiff, reduceCtorEq, List.getD_cons_zero, List.getD_cons_succ]
    all_goals rfl
  · rintro st K ⟨i, hi, g0, g1, g2, g3, g4, g5, hO⟩ hn hx hr
    have hl : l.length ≤ 1000000 := HL
    have hO' : R = idxN (v == ·) i (l.drop i) := hO
    by_cases h : i < l.length
    · have g9 : (i : Int) < l.length := by omega
      have hw := wrapS i (by omega)
      obtain ⟨x, hx1⟩ := some_at h
      rw [idxN_at _ hx1] at hO'
      have ha := getD_map (f := D.str) hx1
      cases he : (v == x) with
      | true =>
        rw [he] at hO'
        rw [if_pos rfl] at hO'
        subst hO'
        clear hO hn hx hl hx1 hR
        repeat' (first
    | simp only [*, go_seq, go_cond, go_block, go_skip, go_retc, go_region, go_ops_nil, go_ops, okG_some, cwD_bool, gw_true, guardG, opG, inB, sval, stake, eats, eaters, get, St.taken, put_slot, put_room, dem_none, dem_slot, ↓reduceIte, Nat.reduceEqDiff, Nat.reduceLT, reduceCtorEq, decide_true, List.filterMap_cons, List.filterMap_nil, Option.map_some, List.getElem?_cons_zero, List.contains_cons, List.contains_nil, beq_self_eq_true, Bool.or_false, Nat.reduceBEq, Bool.false_eq_true, dbin, dIntBin, row11, frz11, frzOf_def, frz_nil, List.length_nil, List.length_cons, dcells, Nat.zero_add, Int.natCast_nonneg, Int.toNat_natCast, and_self, dStrBin, dp9, ia24, frz11b]
    | (refine drW_intro (by kernel_rfl) ?_)
    | (refine gw_intro (fun h => ?_) (fun h => ?_) <;> (try simp only [beq_true, beq_false, Bool.not_eq_eq_eq_not, Bool.not_true, Bool.not_false, Bool.not_not, decide_eq_true_eq, decide_eq_false_iff_not, ge_iff_le, gt_iff_lt] at h)))
        refine hr _ ?_
        repeat' (first
    | simp only [*, put_slot, put_room, put_box, dem_box, endQ, endR, endV, rvars, rvar, room1, ↓reduceIte, List.map_nil, pureB, leaf, leafN, List.take_nil, List.range_zero, and_self]
    | (refine drW_intro (by kernel_rfl) ?_)
    | (refine gw_intro (fun h => ?_) (fun h => ?_) <;> (try simp only [beq_true, beq_false, Bool.not_eq_eq_eq_not, Bool.not_true, Bool.not_false, Bool.not_not, decide_eq_true_eq, decide_eq_false_iff_not, ge_iff_le, gt_iff_lt] at h)))
      | false =>
        rw [he] at hO'
        rw [if_neg (by decide)] at hO'
        have HO := Hd.mk hO'
        clear hO hO' hx hr hl hx1
        repeat' (first
    | simp only [*, go_nil, go_seq, go_cond, go_block, go_blk, go_skip, go_region, go_ops_nil, go_ops, okG_some, cwD_bool, gw_true, gw_false, guardG, opG, inB, sval, stake, eats, eaters, get, cval, cval1, St.taken, put_slot, put_room, dem_none, dem_slot, ↓reduceIte, Nat.reduceEqDiff, Nat.reduceLT, reduceCtorEq, decide_true, List.filterMap_cons, List.filterMap_nil, Option.map_some, List.getElem?_cons_zero, List.contains_cons, List.contains_nil, Bool.or_false, Nat.reduceBEq, Bool.false_eq_true, dbin, dIntBin, row11, frz11, frzOf_def, frz_nil, List.length_nil, List.length_cons, dcells, Nat.zero_add, Int.natCast_nonneg, Int.toNat_natCast, and_self, dStrBin, dp9, ia24, frz11b]
    | (refine drW_intro (by kernel_rfl) ?_)
    | (refine gw_intro (fun h => ?_) (fun h => ?_) <;> (try simp only [beq_true, beq_false, Bool.not_eq_eq_eq_not, Bool.not_true, Bool.not_false, Bool.not_not, decide_eq_true_eq, decide_eq_false_iff_not, ge_iff_le, gt_iff_lt] at h)))
        refine hn _ ⟨i + 1, h, ?_, ?_, ?_, ?_, ?_, ?_, HO⟩ ?_
        · simp only [*, put_slot, ↓reduceIte]
        · simp only [*, put_slot, dem_slot, ↓reduceIte, Nat.reduceEqDiff]
        · simp only [*, put_slot, dem_slot, ↓reduceIte, reduceCtorEq]
        · simp only [*, put_slot, dem_slot, ↓reduceIte, Nat.reduceEqDiff]
        · simp only [*, put_slot, dem_slot, ↓reduceIte, Nat.reduceEqDiff]
        · simp only [*, put_room, dem_room, ↓reduceIte, Nat.reduceEqDiff]
        · simp only [slotI, *, put_slot, ↓reduceIte, Int.toNat_natCast]
          omega
    · have g9 : ¬ (i : Int) < l.length := by omega
      rw [idxN_end _ (by omega)] at hO'
      subst hO'
      clear hO hn hr hl hR
      repeat' (first
    | simp only [*, go_nil, go_seq, go_cond, go_exit, go_xcode, go_region, go_ops_nil, go_ops, okG_some, cwD_bool, gw_false, guardG, opG, inB, sval, stake, eats, eaters, get, put_slot, dem_none, ↓reduceIte, Nat.reduceLT, decide_true, decide_false, List.filterMap_cons, List.filterMap_nil, Option.map_some, List.contains_cons, List.contains_nil, Bool.or_false, Bool.false_eq_true, dbin, dIntBin, row11, frz_nil, frz11b]
    | (refine drW_intro (by kernel_rfl) ?_)
    | (refine gw_intro (fun h => ?_) (fun h => ?_) <;> (try simp only [beq_true, beq_false, Bool.not_eq_eq_eq_not, Bool.not_true, Bool.not_false, Bool.not_not, decide_eq_true_eq, decide_eq_false_iff_not, ge_iff_le, gt_iff_lt] at h)))
      refine hx _ _ ?_
      repeat' (first
    | simp only [*, go_seq, go_retc, go_xblk, go_region, go_ops_nil, go_ops, okG_some, guardG, opG, inB, sval, stake, eats, eaters, get, cval, cval1, croom, put_slot, put_room, put_box, dem_none, endQ, endR, endV, rvars, rvar, room1, ↓reduceIte, Nat.reduceLT, decide_true, List.filterMap_cons, List.filterMap_nil, List.contains_cons, List.contains_nil, List.map_nil, Bool.or_false, Bool.false_eq_true, row11, frz_nil, pureB, leaf, leafN, List.take_nil, List.range_zero, and_self, frz11b]
    | (refine drW_intro (by kernel_rfl) ?_)
    | (refine gw_intro (fun h => ?_) (fun h => ?_) <;> (try simp only [beq_true, beq_false, Bool.not_eq_eq_eq_not, Bool.not_true, Bool.not_false, Bool.not_not, decide_eq_true_eq, decide_eq_false_iff_not, ge_iff_le, gt_iff_lt] at h)))
theorem any_contains (l : List (List UInt8)) (v : List UInt8) : l.any (v == ·) = l.contains v := by
  induction l with
  | nil => rfl
  | cons a r ih => rw [List.any_cons, ih, List.contains_cons]
theorem contains_L (l : List (List UInt8)) (v : List UInt8) (hl : l.length ≤ 1000000) : callL Tryd.prog (ext11b chk) 52 [.list (l.map D.str), .str v] [] = some (.bool (l.contains v), [.no], []) := by
  have h := index_L (chk := chk) l v hl
  rw [← any_contains, ← idxN_ge (v == ·) l 0]
  clear hl
  generalize idxN (v == ·) 0 l = R at *
  generalize l.map D.str = L at *
  refine callK (m := 9) (res := [4]) (rs := [.tmp 4]) rfl Tryd.func52 rfl rfl rfl rfl rfl ?_
  repeat' (first
    | simp only [*, go_seq, go_retc, go_region, go_ops_nil, go_ops, okG_some, guardG, opG, isPtr, inB, sval, stake, eats, eaters, get, cval, cval1, croom, St.taken, put_slot, put_room, put_box, dem_none, dem_box, entry_slot, entry_box, endQ, endR, endV, rvars, rvar, room1, ↓reduceIte, Nat.reduceEqDiff, Nat.reduceLT, reduceCtorEq, decide_true, List.filterMap_cons, List.filterMap_nil, Option.map_some, List.getD_cons_zero, List.getD_cons_succ, List.contains_cons, List.contains_nil, List.map_cons, List.map_nil, beq_self_eq_true, Bool.or_false, Bool.and_true, Nat.reduceBEq, Bool.false_eq_true, dbin, dIntBin, okR, callG, row11, frz11, frzOf_def, frz_nil, pureB, leaf, leafN, List.all_cons, List.all_nil, List.nil_append, List.append_nil, List.take_nil, List.range_zero, List.length_nil, List.getElem?_nil, and_self, ge_iff_le, frz11b]
    | (refine drW_intro (by kernel_rfl) ?_)
    | (refine gw_intro (fun h => ?_) (fun h => ?_) <;> (try simp only [beq_true, beq_false, Bool.not_eq_eq_eq_not, Bool.not_true, Bool.not_false, Bool.not_not, decide_eq_true_eq, decide_eq_false_iff_not, ge_iff_le, gt_iff_lt] at h)))
theorem dstate_L (s : List UInt8) : callL Tryd.prog (ext11b chk) 66 [.str s] [] = some (.bool (stS.contains s), [.no], []) := by
  have h : callL Tryd.prog (ext11b chk) 52 [.list stD, .str s] [] = some (.bool (stS.contains s), [.no], []) := contains_L (chk := chk) stS s (by decide)
  generalize stS.contains s = R at *
  refine callK (m := 6) (res := [2]) (rs := [.tmp 2]) rfl Tryd.func66 rfl rfl rfl rfl rfl ?_
  repeat' (first
    | simp only [*, go_seq, go_retc, go_region, go_ops_nil, go_ops, okG_some, guardG, opG, isPtr, inB, sval, stake, eats, eaters, get, cval, cval1, croom, St.taken, put_slot, put_room, put_box, dem_none, dem_box, entry_slot, entry_box, endQ, endR, endV, rvars, rvar, room1, ↓reduceIte, Nat.reduceEqDiff, Nat.reduceLT, reduceCtorEq, decide_true, List.filterMap_cons, List.filterMap_nil, Option.map_some, Option.map_none, List.getD_cons_zero, List.contains_cons, List.contains_nil, List.map_cons, List.map_nil, beq_self_eq_true, Bool.or_false, Bool.and_true, Nat.reduceBEq, Bool.false_eq_true, okR, callG, row11, frz11, frzOf_def, frz_nil, pureB, leaf, leafN, List.all_cons, List.all_nil, List.nil_append, List.append_nil, List.take_nil, List.range_zero, List.length_nil, List.getElem?_nil, List.take_succ_cons, and_self, sl121, frz11b, gl1]
    | (refine drW_intro (by kernel_rfl) ?_)
    | (refine gw_intro (fun h => ?_) (fun h => ?_) <;> (try simp only [beq_true, beq_false, Bool.not_eq_eq_eq_not, Bool.not_true, Bool.not_false, Bool.not_not, decide_eq_true_eq, decide_eq_false_iff_not, ge_iff_le, gt_iff_lt] at h)))
theorem any_contains2 (l : List (List UInt8)) (v : List UInt8) : l.any (· == v) = l.contains v := by
  rw [← any_contains]
  congr 1
  funext x
  rw [Bool.eq_iff_iff, beq_iff_eq, beq_iff_eq]
  exact eq_comm
set_option maxHeartbeats 4000000 in
theorem has_L (l : List (List UInt8)) (v : List UInt8) (hl : l.length ≤ 140737488355328) : callL Tryd.prog (ext11b chk) 29 [.list (l.map D.str), .str v] [] = some (.bool (l.contains v), [.no], []) := by
  have lN := lenM l D.str
  rw [← any_contains2]
  refine callK (m := 18) (res := [4]) (rs := [.tmp 4]) rfl Tryd.func29 rfl rfl rfl rfl rfl ?_
  have HL := Hd.mk hl
  clear hl
  obtain ⟨R, hR⟩ : ∃ R, Hd (R = l.any (· == v)) := ⟨_, rfl⟩
  rw [← (show R = l.any (· == v) from hR)]
  repeat' (first
    | simp only [*, go_seq, go_block, go_loop, go_region, go_ops_nil, go_ops, okG_some, guardG, opG, inB, sval, stake, eats, eaters, get, cval, cval1, croom, dem_none, ↓reduceIte, Nat.reduceLT, decide_true, List.filterMap_cons, List.filterMap_nil, List.contains_cons, List.contains_nil, Bool.or_false, Bool.false_eq_true, row11, frz_nil, List.length_nil, frz11b]
    | (refine drW_intro (by kernel_rfl) ?_)
    | (refine gw_intro (fun h => ?_) (fun h => ?_) <;> (try simp only [beq_true, beq_false, Bool.not_eq_eq_eq_not, Bool.not_true, Bool.not_false, Bool.not_not, decide_eq_true_eq, decide_eq_false_iff_not, ge_iff_le, gt_iff_lt] at h)))
  refine loopH (fun st => ∃ i : Nat, i ≤ l.length ∧ st.slot 5 = .int .i64 i ∧ st.slot 0 = .list (l.map D.str) ∧ st.slot 1 = .str v ∧ st.slot 4 = .bool false ∧ st.room 4 = [] ∧ Hd (R = (l.drop i).any (· == v))) (fun st => l.length - slotI st 5) ?_ ?_
  · refine ⟨0, Nat.zero_le _, ?_, ?_, ?_, ?_, ?_, hR⟩
    all_goals simp only [*, put_slot, put_room, entry_slot, ↓reduceIte, Nat.reduceEqDiff, reduceCtorEq, List.getD_cons_zero, List.getD_cons_succ]
    all_goals rfl
  · rintro st K ⟨i, hi, g0, g1, g2, g3, g4, hO⟩ hn hx hr
    have hl : l.length ≤ 140737488355328 := HL
    have hO' : R = (l.drop i).any (· == v) := hO
    by_cases h : i < l.length
    · have g9 : (i : Int) < l.length := by omega
      have hw := wrapS i (by omega)
      obtain ⟨x, hx1⟩ := some_at h
      rw [any_drop _ hx1] at hO'
      have ha := getD_map (f := D.str) hx1
      cases he : (x == v) with
      | true =>
        rw [he, Bool.true_or] at hO'
        subst hO'
        clear hO hn hx hl hx1 hR
        repeat' (first
    | simp only [*, go_seq, go_cond, go_block, go_skip, go_retc, go_region, go_ops_nil, go_ops, okG_some, cwD_bool, gw_true, guardG, opG, isPtr, inB, sval, stake, eats, eaters, get, cval, cval1, croom, St.taken, put_slot, dem_none, ↓reduceIte, Nat.reduceEqDiff, Nat.reduceLT, reduceCtorEq, decide_true, List.filterMap_cons, List.filterMap_nil, Option.map_some, List.getElem?_cons_zero, List.contains_cons, List.contains_nil, List.map_cons, List.map_nil, Bool.or_false, Bool.false_eq_true, dbin, dIntBin, row11, frz11, frzOf_def, frz_nil, List.length_nil, List.length_cons, dcells, Nat.zero_add, Int.natCast_nonneg, Int.toNat_natCast, and_self, dStrBin, dp9, ia24, len24, frz11b]
    | (refine drW_intro (by kernel_rfl) ?_)
    | (refine gw_intro (fun h => ?_) (fun h => ?_) <;> (try simp only [beq_true, beq_false, Bool.not_eq_eq_eq_not, Bool.not_true, Bool.not_false, Bool.not_not, decide_eq_true_eq, decide_eq_false_iff_not, ge_iff_le, gt_iff_lt] at h)))
        refine hr _ ?_
        repeat' (first
    | simp only [*, put_slot, put_room, put_box, endQ, endR, endV, rvars, rvar, room1, ↓reduceIte, List.map_nil, pureB, leaf, leafN, List.take_nil, List.range_zero, and_self]
    | (refine drW_intro (by kernel_rfl) ?_)
    | (refine gw_intro (fun h => ?_) (fun h => ?_) <;> (try simp only [beq_true, beq_false, Bool.not_eq_eq_eq_not, Bool.not_true, Bool.not_false, Bool.not_not, decide_eq_true_eq, decide_eq_false_iff_not, ge_iff_le, gt_iff_lt] at h)))
      | false =>
        rw [he, Bool.false_or] at hO'
        have HO := Hd.mk hO'
        clear hO hO' hx hr hl hx1
        repeat' (first
    | simp only [*, go_nil, go_seq, go_cond, go_block, go_blk, go_skip, go_region, go_ops_nil, go_ops, okG_some, cwD_bool, gw_true, gw_false, guardG, opG, isPtr, inB, sval, stake, eats, eaters, get, cval, cval1, St.taken, put_slot, put_room, dem_none, ↓reduceIte, Nat.reduceEqDiff, Nat.reduceLT, reduceCtorEq, decide_true, List.filterMap_cons, List.filterMap_nil, Option.map_some, List.getElem?_cons_zero, List.contains_cons, List.contains_nil, List.map_cons, List.map_nil, Bool.or_false, Nat.reduceBEq, Bool.false_eq_true, dbin, dIntBin, row11, frz11, frzOf_def, frz_nil, List.length_nil, List.length_cons, dcells, Nat.zero_add, Int.natCast_nonneg, Int.toNat_natCast, and_self, dStrBin, dp9, ia24, len24]
    | (refine drW_intro (by kernel_rfl) ?_)
    | (refine gw_intro (fun h => ?_) (fun h => ?_) <;> (try simp only [beq_true, beq_false, Bool.not_eq_eq_eq_not, Bool.not_true, Bool.not_false, Bool.not_not, decide_eq_true_eq, decide_eq_false_iff_not, ge_iff_le, gt_iff_lt] at h)))
        refine hn _ ⟨i + 1, h, ?_, ?_, ?_, ?_, ?_, HO⟩ ?_
        · simp only [*, put_slot, ↓reduceIte]
        · simp only [*, put_slot, dem_slot, ↓reduceIte, reduceCtorEq]
        · simp only [*, put_slot, dem_slot, ↓reduceIte, Nat.reduceEqDiff]
        · simp only [*, put_slot, dem_slot, ↓reduceIte, Nat.reduceEqDiff]
        · simp only [*, put_room, dem_room, ↓reduceIte, Nat.reduceEqDiff]
        · simp only [slotI, *, put_slot, ↓reduceIte, Int.toNat_natCast]
          omega
    · have g9 : ¬ (i : Int) < l.length := by omega
      rw [any_end _ (by omega)] at hO'
      subst hO'
      clear hO hn hr hl hR
      repeat' (first
    | simp only [*, go_nil, go_seq, go_cond, go_exit, go_xcode, go_region, go_ops_nil, go_ops, okG_some, cwD_bool, gw_false, guardG, opG, isPtr, inB, sval, stake, eats, eaters, get, St.taken, put_slot, dem_none, ↓reduceIte, Nat.reduceEqDiff, Nat.reduceLT, reduceCtorEq, decide_true, decide_false, List.filterMap_cons, List.filterMap_nil, Option.map_some, List.contains_cons, List.contains_nil, List.map_cons, List.map_nil, Bool.or_false, Bool.false_eq_true, dbin, dIntBin, row11, frz11, frzOf_def, frz_nil, len24]
    | (refine drW_intro (by kernel_rfl) ?_)
    | (refine gw_intro (fun h => ?_) (fun h => ?_) <;> (try simp only [beq_true, beq_false, Bool.not_eq_eq_eq_not, Bool.not_true, Bool.not_false, Bool.not_not, decide_eq_true_eq, decide_eq_false_iff_not, ge_iff_le, gt_iff_lt] at h)))
      refine hx _ _ ?_
      repeat' (first
    | simp only [*, go_seq, go_retc, go_xblk, go_region, go_ops_nil, go_ops, okG_some, guardG, opG, inB, sval, stake, eats, eaters, get, cval, cval1, croom, put_slot, put_room, put_box, dem_none, endQ, endR, endV, rvars, rvar, room1, ↓reduceIte, Nat.reduceLT, decide_true, List.filterMap_cons, List.filterMap_nil, List.contains_cons, List.contains_nil, List.map_nil, Bool.or_false, Bool.false_eq_true, row11, frz_nil, pureB, leaf, leafN, List.take_nil, List.range_zero, and_self, frz11b]
    | (refine drW_intro (by kernel_rfl) ?_)
    | (refine gw_intro (fun h => ?_) (fun h => ?_) <;> (try simp only [beq_true, beq_false, Bool.not_eq_eq_eq_not, Bool.not_true, Bool.not_false, Bool.not_not, decide_eq_true_eq, decide_eq_false_iff_not, ge_iff_le, gt_iff_lt] at h)))
def stL : List D := stS.map .str
theorem bs24s : dbuildSlice Tryd.prog 24 10 [(0, .str [104, 111, 118, 101, 114]), (1, .str [97, 99, 116, 105, 118, 101]), (2, .str [102, 111, 99, 117, 115]), (3, .str [102, 111, 99, 117, 115, 45, 118, 105, 115, 105, 98, 108, 101]), (4, .str [118, 105, 115, 105, 116, 101, 100]), (5, .str [108, 105, 110, 107]), (6, .str [99, 104, 101, 99, 107, 101, 100]), (7, .str [100, 105, 115, 97, 98, 108, 101, 100]), (8, .str [101, 110, 97, 98, 108, 101, 100]), (9, .str [116, 97, 114, 103, 101, 116])] = some (.list stL) := by kernel_rfl
theorem rstate_L (s : List UInt8) : callL Tryd.prog (ext11b chk) 28 [.str s] [] = some (.bool (stS.contains s), [.no], []) := by
  have h : callL Tryd.prog (ext11b chk) 29 [.list stL, .str s] [] = some (.bool (stS.contains s), [.no], []) := has_L (chk := chk) stS s (by decide)
  generalize stS.contains s = R at *
  refine callK (m := 6) (res := [2]) (rs := [.tmp 2]) rfl Tryd.func28 rfl rfl rfl rfl rfl ?_
  repeat' (first
    | simp only [*, bs24s, go_seq, go_retc, go_region, go_ops_nil, go_ops, okG_some, guardG, opG, isPtr, inB, sval, stake, eats, eaters, get, cval, cval1, croom, St.taken, put_slot, put_room, put_box, dem_none, dem_box, entry_slot, entry_box, endQ, endR, endV, rvars, rvar, room1, ↓reduceIte, Nat.reduceEqDiff, Nat.reduceLT, reduceCtorEq, decide_true, List.filterMap_cons, List.filterMap_nil, Option.map_some, List.getD_cons_zero, List.contains_cons, List.contains_nil, List.map_cons, List.map_nil, beq_self_eq_true, Bool.or_false, Bool.and_true, Nat.reduceBEq, Bool.false_eq_true, okR, callG, row11, frz11, frzOf_def, frz_nil, pureB, leaf, leafN, List.all_cons, List.all_nil, List.nil_append, List.append_nil, List.take_nil, List.range_zero, List.length_nil, List.getElem?_nil, List.take_succ_cons, and_self, frz11b]
    | (refine drW_intro (by kernel_rfl) ?_)
    | (refine gw_intro (fun h => ?_) (fun h => ?_) <;> (try simp only [beq_true, beq_false, Bool.not_eq_eq_eq_not, Bool.not_true, Bool.not_false, Bool.not_not, decide_eq_true_eq, decide_eq_false_iff_not, ge_iff_le, gt_iff_lt] at h)))
end Go.Av
/- Chapter 11: which nodes are right, both texts: attributes, states, nodes. -/
set_option linter.unusedSimpArgs false
set_option linter.unusedVariables false
set_option linter.unusedSectionVars false
set_option maxRecDepth 100000
namespace Go.Av
open Go.Proofs
variable {chk : List D → Bool}
theorem szA (l : List At) : szOk 3 (l.map At.d) = true := by cases l <;> rfl
theorem szS (l : List (List UInt8)) : szOk 1 (l.map D.str) = true := by cases l <;> rfl
theorem szN (l : List Nd) : szOk 7 (l.map Nd.d) = true := by cases l <;> rfl
def atOk (a : At) : Bool := !(a.nm == []) && (goodB a.sp && (goodB a.nm && goodB a.vl))
def attrsG : List At → List At → Bool
  | _, [] => true
  | p, a :: r => (atOk a && !(p.any (sameN a.sp a.nm))) && attrsG (p ++ [a]) r
def attrsB (l : List At) : Bool := attrsG [] l
def statesG : List (List UInt8) → List (List UInt8) → Bool
  | _, [] => true
  | p, s :: r => (stS.contains s && !(p.contains s)) && statesG (p ++ [s]) r
def statesB (l : List (List UInt8)) : Bool := statesG [] l
theorem attrsG_at {xs : List At} {i : Nat} {x : At} (hx : xs[i]? = some x) : attrsG (xs.take i) (xs.drop i) = ((atOk x && !((xs.take i).any (sameN x.sp x.nm))) && attrsG (xs.take (i + 1)) (xs.drop (i + 1))) := by
  have h1 : i < xs.length := (List.getElem?_eq_some_iff.1 hx).1
  have e1 : xs[i] = x := (List.getElem?_eq_some_iff.1 hx).2
  rw [List.drop_eq_getElem_cons h1, e1, attrsG, List.take_succ_eq_append_getElem h1, e1]
theorem statesG_at {xs : List (List UInt8)} {i : Nat} {x : List UInt8} (hx : xs[i]? = some x) : statesG (xs.take i) (xs.drop i) = ((stS.contains x && !((xs.take i).contains x)) && statesG (xs.take (i + 1)) (xs.drop (i + 1))) := by
  have h1 : i < xs.length := (List.getElem?_eq_some_iff.1 hx).1
  have e1 : xs[i] = x := (List.getElem?_eq_some_iff.1 hx).2
  rw [List.drop_eq_getElem_cons h1, e1, statesG, List.take_succ_eq_append_getElem h1, e1]
theorem attrsG_end {xs : List At} {i : Nat} (h : xs.length ≤ i) : attrsG (xs.take i) (xs.drop i) = true := by
  rw [List.drop_eq_nil_of_le h]
  rfl
theorem statesG_end {xs : List (List UInt8)} {i : Nat} (h : xs.length ≤ i) : statesG (xs.take i) (xs.drop i) = true := by
  rw [List.drop_eq_nil_of_le h]
  rfl
def BigA (a : At) : Prop := a.sp.length ≤ 140737488355328 ∧ a.nm.length ≤ 140737488355328 ∧ a.vl.length ≤ 140737488355328
def SmallA (a : At) : Prop := a.sp.length ≤ 1000000 ∧ a.nm.length ≤ 1000000 ∧ a.vl.length ≤ 1000000
set_option maxHeartbeats 16000000 in
theorem attrs_L (l : List At) (hl : l.length ≤ 1000000) (hS : ∀ a ∈ l, SmallA a) : callL Tryd.prog (ext11b chk) 54 [.list (l.map At.d)] [] = some (.bool (attrsB l), [.no], []) := by
  have lN := lenM l At.d
  refine callK (m := 45) (res := [2]) (rs := [.tmp 2]) rfl Tryd.func54 rfl rfl rfl rfl rfl ?_
  have HL := Hd.mk hl
  have HS := Hd.mk hS
  clear hl hS
  obtain ⟨R, hR⟩ : ∃ R, Hd (R = attrsG (l.take 0) (l.drop 0)) := ⟨_, rfl⟩
  rw [show attrsB l = R from (show R = attrsG (l.take 0) (l.drop 0) from hR).symm]
  repeat' (first
    | simp only [*, go_seq, go_block, go_loop, go_region, go_ops_nil, go_ops, okG_some, guardG, opG, isPtr, inB, sval, stake, eats, eaters, get, cval, cval1, croom, St.taken, put_slot, dem_none, entry_slot, ↓reduceIte, Nat.reduceLT, reduceCtorEq, decide_true, List.filterMap_cons, List.filterMap_nil, Option.map_some, List.getD_cons_zero, List.contains_cons, List.contains_nil, List.map_cons, List.map_nil, Bool.or_false, Bool.false_eq_true, row11, frz11, frzOf_def, frz_nil, List.length_nil, len23, frz11b]
    | (refine drW_intro (by kernel_rfl) ?_)
    | (refine gw_intro (fun h => ?_) (fun h => ?_) <;> (try simp only [beq_true, beq_false, Bool.not_eq_eq_eq_not, Bool.not_true, Bool.not_false, Bool.not_not, decide_eq_true_eq, decide_eq_false_iff_not, ge_iff_le, gt_iff_lt] at h)))
  refine loopH (fun st => ∃ i : Nat, i ≤ l.length ∧ st.slot 7 = .int .i64 i ∧ st.slot 5 = .list (l.map At.d) ∧ st.slot 6 = .int .i64 l.length ∧ st.slot 0 = .list (l.map At.d) ∧ st.slot 2 = .bool false ∧ st.room 2 = [] ∧ Hd (R = attrsG (l.take i) (l.drop i))) (fun st => l.length - slotI st 7) ?_ ?_
  · refine ⟨0, Nat.zero_le _, ?_, ?_, ?_, ?_, ?_, ?_, hR⟩
    all_goals simp only [*, put_slot, put_room, entry_slot, ↓reduceIte, Nat.reduceEqDiff, reduceCtorEq, List.getD_cons_zero]
    all_goals rfl
  · rintro st K ⟨i, hi, g0, g1, g2, g3, g4, g5, hO⟩ hn hx hr
    have hl : l.length ≤ 1000000 := HL
    have hO' : R = attrsG (l.take i) (l.drop i) := hO
    by_cases h : i < l.length
    · have g9 : (i : Int) < l.length := by omega
      have hw := wrapS i (by omega)
      obtain ⟨x, hx1⟩ := some_at h
      rw [attrsG_at hx1] at hO'
      have ha := getD_map (f := At.d) hx1
      have hS : ∀ a ∈ l, SmallA a := HS
      obtain ⟨s1, s2, s3⟩ : SmallA x := hS x (List.mem_of_getElem? hx1)
      obtain ⟨a1, a2, a3⟩ := x
      have ha2 : (l.map At.d).getD i .bad = .agg [.str a1, .str a2, .str a3] := ha
      clear ha
      have q1 := dright_L (chk := chk) a1 s1
      have q2 := dright_L (chk := chk) a2 s2
      have q3 := dright_L (chk := chk) a3 s3
      have q4 : callL Tryd.prog (ext11b chk) 51 [.list ((l.map At.d).take i), .str a1, .str a2] [] = some (.int .i64 (idxN (sameN a1 a2) 0 (l.take i)), [.no], []) := by
        rw [← List.map_take]
        exact attr_L (l.take i) a1 a2 (by rw [List.length_take]; omega)
      have q5 := idxN_ge (sameN a1 a2) (l.take i) 0
      have sz := szA l
      have gle : (i : Int) ≤ l.length := by omega
      simp only [atOk] at hO'
      generalize idxN (sameN a1 a2) 0 (l.take i) = X at *
      generalize (l.take i).any (sameN a1 a2) = e5 at *
      generalize goodB a1 = e1 at *
      generalize goodB a2 = e2 at *
      generalize goodB a3 = e3 at *
      clear s1 s2 s3
      cases h0 : (a2 == []) with
      | true =>
        rw [h0] at hO'
        simp only [Bool.not_true, Bool.false_and] at hO'
        subst hO'
        clear hO hn hx hl hx1 hR q5 sz
        repeat' (first
    | simp only [*, go_seq, go_cond, go_block, go_skip, go_retc, go_region, go_draw, go_ops_nil, go_ops, go_dops1, go_dops, okG_some, okB_some, gwD_bool, cwD_bool, gw_true, gw_false, guardG, opG, opD, isPtr, isStore, inB, sval, stake, eats, eaters, get, cval, cval1, croom, St.taken, put_slot, put_room, put_box, put_ctr, put_none, dem_none, dem_slot, dem_box, dem_room, setBox_slot, setBox_room, setBox_box, ↓reduceIte, Nat.reduceEqDiff, Nat.reduceLT, Nat.reduceLeDiff, reduceCtorEq, decide_true, List.filterMap_cons, List.filterMap_nil, Option.bind_some, Option.map_some, Option.bind_none, Option.map_none, List.getElem?_cons_zero, List.getElem?_cons_succ, List.contains_cons, List.contains_nil, beq_iff_eq, Bool.or_false, Bool.and_true, Nat.reduceBEq, Bool.false_eq_true, dbin, dIntBin, row11, frz11, frzOf_def, frz_nil, isLocal, allocKey, isAlloc, loadsOwn, beq_false, Bool.not_true, pureB, leaf, leafN, List.all_cons, List.all_nil, List.nil_append, List.append_nil, List.length_nil, List.length_cons, List.find?_cons, List.find?_nil, dun, List.take_zero, List.drop_zero, List.drop_succ_cons, dcells, Nat.zero_add, Nat.reduceAdd, stepBox, Int.natCast_nonneg, Int.toNat_natCast, and_self, dStrBin, dp9, ty54, dp54, fp54_1, zr54, ia23, frz11b]
    | (refine drW_intro (by kernel_rfl) ?_)
    | (refine gw_intro (fun h => ?_) (fun h => ?_) <;> (try simp only [beq_true, beq_false, Bool.not_eq_eq_eq_not, Bool.not_true, Bool.not_false, Bool.not_not, decide_eq_true_eq, decide_eq_false_iff_not, ge_iff_le, gt_iff_lt] at h)))
        refine hr _ ?_
        repeat' (first
    | simp only [*, put_slot, put_room, put_box, dem_box, setBox_box, endQ, endR, endV, rvars, rvar, room1, ↓reduceIte, List.map_nil, pureB, leaf, leafN, List.take_nil, List.range_zero, and_self]
    | (refine drW_intro (by kernel_rfl) ?_)
    | (refine gw_intro (fun h => ?_) (fun h => ?_) <;> (try simp only [beq_true, beq_false, Bool.not_eq_eq_eq_not, Bool.not_true, Bool.not_false, Bool.not_not, decide_eq_true_eq, decide_eq_false_iff_not, ge_iff_le, gt_iff_lt] at h)))
      | false =>
        rw [h0] at hO'
        cases e1 with
        | false =>
          simp only [Bool.not_false, Bool.false_and, Bool.true_and] at hO'
          subst hO'
          clear hO hn hx hl hx1 hR q5 sz
          repeat' (first
    | simp only [*, go_seq, go_cond, go_block, go_skip, go_retc, go_region, go_draw, go_ops_nil, go_ops, go_dops1, go_dops, okG_some, okB_some, gwD_bool, cwD_bool, gw_true, gw_false, guardG, opG, opD, isPtr, isStore, inB, sval, stake, eats, eaters, get, cval, cval1, croom, St.taken, put_slot, put_room, put_box, put_ctr, put_none, dem_none, dem_slot, dem_box, dem_room, setBox_slot, setBox_room, setBox_box, ↓reduceIte, Nat.reduceEqDiff, Nat.reduceLT, Nat.reduceLeDiff, reduceCtorEq, decide_true, List.filterMap_cons, List.filterMap_nil, Option.bind_some, Option.map_some, Option.bind_none, Option.map_none, List.getElem?_cons_zero, List.getElem?_cons_succ, List.contains_cons, List.contains_nil, List.map_cons, List.map_nil, beq_self_eq_true, beq_iff_eq, Bool.or_false, Bool.and_true, Nat.reduceBEq, Bool.false_eq_true, dbin, dIntBin, row11, frz11, frzOf_def, frz_nil, isLocal, allocKey, isAlloc, loadsOwn, beq_false, Bool.not_true, Bool.not_false, pureB, leaf, leafN, List.all_cons, List.all_nil, List.nil_append, List.append_nil, List.length_nil, List.length_cons, List.find?_cons, List.find?_nil, dun, List.take_zero, List.drop_zero, List.drop_succ_cons, dcells, Nat.zero_add, Nat.reduceAdd, stepBox, Int.natCast_nonneg, Int.toNat_natCast, and_self, Nat.add_zero, dStrBin, plainR_s, dp9, ty54, dp54, fp54_0, fp54_1, zr54, ia23, frz11b]
    | (refine drW_intro (by kernel_rfl) ?_)
    | (refine gw_intro (fun h => ?_) (fun h => ?_) <;> (try simp only [beq_true, beq_false, Bool.not_eq_eq_eq_not, Bool.not_true, Bool.not_false, Bool.not_not, decide_eq_true_eq, decide_eq_false_iff_not, ge_iff_le, gt_iff_lt] at h)))
          refine hr _ ?_
          repeat' (first
    | simp only [*, put_slot, put_room, put_box, dem_box, setBox_box, endQ, endR, endV, rvars, rvar, room1, ↓reduceIte, List.map_nil, pureB, leaf, leafN, List.take_nil, List.range_zero, and_self]
    | (refine drW_intro (by kernel_rfl) ?_)
    | (refine gw_intro (fun h => ?_) (fun h => ?_) <;> (try simp only [beq_true, beq_false, Bool.not_eq_eq_eq_not, Bool.not_true, Bool.not_false, Bool.not_not, decide_eq_true_eq, decide_eq_false_iff_not, ge_iff_le, gt_iff_lt] at h)))
        | true =>
          cases e2 with
          | false =>
            simp only [Bool.not_false, Bool.false_and, Bool.true_and] at hO'
            subst hO'
            clear hO hn hx hl hx1 hR q5 sz
            repeat' (first
    | simp only [*, go_seq, go_cond, go_block, go_skip, go_retc, go_region, go_draw, go_ops_nil, go_ops, go_dops1, go_dops, okG_some, okB_some, gwD_bool, cwD_bool, gw_true, gw_false, guardG, opG, opD, isPtr, isStore, inB, sval, stake, eats, eaters, get, cval, cval1, croom, St.taken, put_slot, put_room, put_box, put_ctr, put_none, dem_none, dem_slot, dem_box, dem_room, setBox_slot, setBox_room, setBox_box, ↓reduceIte, Nat.reduceEqDiff, Nat.reduceLT, Nat.reduceLeDiff, reduceCtorEq, decide_true, List.filterMap_cons, List.filterMap_nil, Option.bind_some, Option.map_some, Option.bind_none, Option.map_none, List.getElem?_cons_zero, List.getElem?_cons_succ, List.contains_cons, List.contains_nil, List.map_cons, List.map_nil, beq_self_eq_true, beq_iff_eq, Bool.or_false, Bool.and_true, Nat.reduceBEq, Bool.false_eq_true, dbin, dIntBin, row11, frz11, frzOf_def, frz_nil, isLocal, allocKey, isAlloc, loadsOwn, beq_false, Bool.not_true, Bool.not_false, pureB, leaf, leafN, List.all_cons, List.all_nil, List.nil_append, List.append_nil, List.length_nil, List.length_cons, List.find?_cons, List.find?_nil, dun, List.take_zero, List.drop_zero, List.drop_succ_cons, dcells, Nat.zero_add, Nat.reduceAdd, stepBox, Int.natCast_nonneg, Int.toNat_natCast, and_self, Nat.add_zero, dStrBin, plainR_s, dp9, ty54, dp54, fp54_0, fp54_1, zr54, ia23, frz11b]
    | (refine drW_intro (by kernel_rfl) ?_)
    | (refine gw_intro (fun h => ?_) (fun h => ?_) <;> (try simp only [beq_true, beq_false, Bool.not_eq_eq_eq_not, Bool.not_true, Bool.not_false, Bool.not_not, decide_eq_true_eq, decide_eq_false_iff_not, ge_iff_le, gt_iff_lt] at h)))
            refine hr _ ?_
            repeat' (first
    | simp only [*, put_slot, put_room, put_box, dem_box, setBox_box, endQ, endR, endV, rvars, rvar, room1, ↓reduceIte, List.map_nil, pureB, leaf, leafN, List.take_nil, List.range_zero, and_self]
    | (refine drW_intro (by kernel_rfl) ?_)
    | (refine gw_intro (fun h => ?_) (fun h => ?_) <;> (try simp only [beq_true, beq_false, Bool.not_eq_eq_eq_not, Bool.not_true, Bool.not_false, Bool.not_not, decide_eq_true_eq, decide_eq_false_iff_not, ge_iff_le, gt_iff_lt] at h)))
          | true =>
            cases e3 with
            | false =>
              simp only [Bool.not_false, Bool.false_and, Bool.true_and] at hO'
              subst hO'
              clear hO hn hx hl hx1 hR q5 sz
              repeat' (first
    | simp only [*, go_seq, go_cond, go_block, go_skip, go_retc, go_region, go_draw, go_ops_nil, go_ops, go_dops1, go_dops, okG_some, okB_some, gwD_bool, cwD_bool, gw_true, gw_false, guardG, opG, opD, isPtr, isStore, inB, sval, stake, eats, eaters, get, cval, cval1, croom, St.taken, put_slot, put_room, put_box, put_ctr, put_none, dem_none, dem_slot, dem_box, dem_room, setBox_slot, setBox_room, setBox_box, ↓reduceIte, Nat.reduceEqDiff, Nat.reduceLT, Nat.reduceLeDiff, reduceCtorEq, decide_true, List.filterMap_cons, List.filterMap_nil, Option.bind_some, Option.map_some, Option.bind_none, Option.map_none, List.getElem?_cons_zero, List.getElem?_cons_succ, List.contains_cons, List.contains_nil, List.map_cons, List.map_nil, beq_self_eq_true, beq_iff_eq, Bool.or_false, Bool.and_true, Nat.reduceBEq, Bool.false_eq_true, dbin, dIntBin, row11, frz11, frzOf_def, frz_nil, isLocal, allocKey, isAlloc, loadsOwn, beq_false, Bool.not_true, Bool.not_false, pureB, leaf, leafN, List.all_cons, List.all_nil, List.nil_append, List.append_nil, List.length_nil, List.length_cons, List.find?_cons, List.find?_nil, dun, List.take_zero, List.drop_zero, List.drop_succ_cons, dcells, Nat.zero_add, Nat.reduceAdd, stepBox, Int.natCast_nonneg, Int.toNat_natCast, and_self, Nat.add_zero, dStrBin, plainR_s, dp9, ty54, dp54, fp54_0, fp54_1, fp54_2, zr54, ia23, frz11b]
    | (refine drW_intro (by kernel_rfl) ?_)
    | (refine gw_intro (fun h => ?_) (fun h => ?_) <;> (try simp only [beq_true, beq_false, Bool.not_eq_eq_eq_not, Bool.not_true, Bool.not_false, Bool.not_not, decide_eq_true_eq, decide_eq_false_iff_not, ge_iff_le, gt_iff_lt] at h)))
              refine hr _ ?_
              repeat' (first
    | simp only [*, put_slot, put_room, put_box, dem_box, setBox_box, endQ, endR, endV, rvars, rvar, room1, ↓reduceIte, List.map_nil, pureB, leaf, leafN, List.take_nil, List.range_zero, and_self]
    | (refine drW_intro (by kernel_rfl) ?_)
    | (refine gw_intro (fun h => ?_) (fun h => ?_) <;> (try simp only [beq_true, beq_false, Bool.not_eq_eq_eq_not, Bool.not_true, Bool.not_false, Bool.not_not, decide_eq_true_eq, decide_eq_false_iff_not, ge_iff_le, gt_iff_lt] at h)))
            | true =>
              cases e5 with
              | true =>
                simp only [Bool.not_false, Bool.not_true, Bool.false_and, Bool.true_and] at hO'
                have q6 : (0 : Int) ≤ X := by simpa using q5
                subst hO'
                clear hO hn hx hl hx1 hR q5
                repeat' (first
    | simp only [*, go_seq, go_cond, go_block, go_skip, go_retc, go_region, go_draw, go_ops_nil, go_ops, go_dops1, go_dops, okG_some, okB_some, gwD_bool, cwD_bool, gw_true, guardG, opG, opD, isPtr, isStore, inB, sval, stake, eats, eaters, get, cval, cval1, croom, St.taken, put_slot, put_room, put_box, put_ctr, put_none, dem_none, dem_slot, dem_box, dem_room, setBox_slot, setBox_room, setBox_box, ↓reduceIte, Nat.reduceEqDiff, Nat.reduceLT, Nat.reduceLeDiff, reduceCtorEq, decide_true, List.filterMap_cons, List.filterMap_nil, Option.bind_some, Option.map_some, Option.bind_none, Option.map_none, List.getElem?_cons_zero, List.getElem?_cons_succ, List.contains_cons, List.contains_nil, List.map_cons, List.map_nil, beq_self_eq_true, beq_iff_eq, Bool.or_false, Bool.and_true, Nat.reduceBEq, Bool.false_eq_true, dbin, dIntBin, row11, frz11, frzOf_def, frz_nil, isLocal, allocKey, isAlloc, loadsOwn, Bool.not_true, pureB, leaf, leafN, List.all_cons, List.all_nil, List.nil_append, List.append_nil, List.length_nil, List.length_cons, List.find?_cons, List.find?_nil, dun, List.take_zero, List.drop_zero, List.drop_succ_cons, dcells, Nat.zero_add, Nat.reduceAdd, stepBox, Int.natCast_nonneg, Int.toNat_natCast, and_self, Nat.add_zero, dopt, dbound, ge_iff_le, dStrBin, plainR_s, dp9, ty54, dp54, fp54_0, fp54_1, fp54_2, zr54, ia23, sl23, frz11b]
    | (refine drW_intro (by kernel_rfl) ?_)
    | (refine gw_intro (fun h => ?_) (fun h => ?_) <;> (try simp only [beq_true, beq_false, Bool.not_eq_eq_eq_not, Bool.not_true, Bool.not_false, Bool.not_not, decide_eq_true_eq, decide_eq_false_iff_not, ge_iff_le, gt_iff_lt] at h)))
                refine hr _ ?_
                repeat' (first
    | simp only [*, put_slot, put_room, put_box, dem_box, setBox_box, endQ, endR, endV, rvars, rvar, room1, ↓reduceIte, List.map_nil, pureB, leaf, leafN, List.take_nil, List.range_zero, and_self]
    | (refine drW_intro (by kernel_rfl) ?_)
    | (refine gw_intro (fun h => ?_) (fun h => ?_) <;> (try simp only [beq_true, beq_false, Bool.not_eq_eq_eq_not, Bool.not_true, Bool.not_false, Bool.not_not, decide_eq_true_eq, decide_eq_false_iff_not, ge_iff_le, gt_iff_lt] at h)))
              | false =>
                simp only [Bool.not_false, Bool.true_and] at hO'
                have q6 : ¬ (0 : Int) ≤ X := by simpa using q5
                have HO := Hd.mk hO'
                clear hO hO' hx hr hl hx1 q5
                repeat' (first
    | simp only [*, go_nil, go_seq, go_cond, go_block, go_blk, go_skip, go_region, go_draw, go_ops_nil, go_ops, go_dops1, go_dops, okG_some, okB_some, gwD_bool, cwD_bool, gw_true, gw_false, guardG, opG, opD, isPtr, isStore, inB, sval, stake, eats, eaters, get, cval, cval1, croom, St.taken, put_slot, put_room, put_box, put_ctr, put_none, dem_none, dem_slot, dem_box, dem_room, setBox_slot, setBox_room, setBox_box, ↓reduceIte, Nat.reduceEqDiff, Nat.reduceLT, Nat.reduceLeDiff, reduceCtorEq, decide_true, decide_false, List.filterMap_cons, List.filterMap_nil, Option.bind_some, Option.map_some, Option.bind_none, Option.map_none, List.getElem?_cons_zero, List.getElem?_cons_succ, List.contains_cons, List.contains_nil, List.map_cons, List.map_nil, beq_self_eq_true, beq_iff_eq, Bool.or_false, Bool.and_true, Nat.reduceBEq, Bool.false_eq_true, dbin, dIntBin, row11, frz11, frzOf_def, frz_nil, isLocal, allocKey, isAlloc, loadsOwn, Bool.not_true, pureB, leaf, leafN, List.all_cons, List.all_nil, List.nil_append, List.append_nil, List.length_nil, List.length_cons, List.find?_cons, List.find?_nil, dun, List.take_zero, List.drop_zero, List.drop_succ_cons, dcells, Nat.zero_add, Nat.reduceAdd, stepBox, Int.natCast_nonneg, Int.toNat_natCast, and_self, Nat.add_zero, dopt, dbound, ge_iff_le, dStrBin, plainR_s, dp9, ty54, dp54, fp54_0, fp54_1, fp54_2, zr54, ia23, sl23, frz11b]
    | (refine drW_intro (by kernel_rfl) ?_)
    | (refine gw_intro (fun h => ?_) (fun h => ?_) <;> (try simp only [beq_true, beq_false, Bool.not_eq_eq_eq_not, Bool.not_true, Bool.not_false, Bool.not_not, decide_eq_true_eq, decide_eq_false_iff_not, ge_iff_le, gt_iff_lt] at h)))
                refine hn _ ⟨i + 1, h, ?_, ?_, ?_, ?_, ?_, ?_, HO⟩ ?_
                · simp only [*, put_slot, ↓reduceIte]
                · simp only [*, put_slot, dem_slot, setBox_slot, ↓reduceIte, Nat.reduceEqDiff]
                · simp only [*, put_slot, dem_slot, setBox_slot, ↓reduceIte, Nat.reduceEqDiff]
                · simp only [*, put_slot, dem_slot, setBox_slot, ↓reduceIte, reduceCtorEq]
                · simp only [*, put_slot, dem_slot, setBox_slot, ↓reduceIte, Nat.reduceEqDiff]
                · simp only [*, put_room, dem_room, setBox_room, ↓reduceIte, Nat.reduceEqDiff]
                · simp only [slotI, *, put_slot, ↓reduceIte, Int.toNat_natCast]
                  omega
    · have g9 : ¬ (i : Int) < l.length := by omega
      rw [attrsG_end (by omega)] at hO'
      subst hO'
      clear hO hn hr hl hR
      repeat' (first
    | simp only [*, go_nil, go_seq, go_cond, go_exit, go_xcode, go_region, go_ops_nil, go_ops, okG_some, cwD_bool, gw_false, guardG, opG, inB, sval, stake, eats, eaters, get, put_slot, dem_none, ↓reduceIte, Nat.reduceLT, decide_true, decide_false, List.filterMap_cons, List.filterMap_nil, Option.map_some, List.contains_cons, List.contains_nil, Bool.or_false, Bool.false_eq_true, dbin, dIntBin, row11, frz_nil, frz11b]
    | (refine drW_intro (by kernel_rfl) ?_)
    | (refine gw_intro (fun h => ?_) (fun h => ?_) <;> (try simp only [beq_true, beq_false, Bool.not_eq_eq_eq_not, Bool.not_true, Bool.not_false, Bool.not_not, decide_eq_true_eq, decide_eq_false_iff_not, ge_iff_le, gt_iff_lt] at h)))
      refine hx _ _ ?_
      repeat' (first
    | simp only [*, go_seq, go_retc, go_xblk, go_region, go_ops_nil, go_ops, okG_some, guardG, opG, inB, sval, stake, eats, eaters, get, cval, cval1, croom, put_slot, put_room, put_box, dem_none, endQ, endR, endV, rvars, rvar, room1, ↓reduceIte, Nat.reduceLT, decide_true, List.filterMap_cons, List.filterMap_nil, List.contains_cons, List.contains_nil, List.map_nil, Bool.or_false, Bool.false_eq_true, row11, frz_nil, pureB, leaf, leafN, List.take_nil, List.range_zero, and_self, frz11b]
    | (refine drW_intro (by kernel_rfl) ?_)
    | (refine gw_intro (fun h => ?_) (fun h => ?_) <;> (try simp only [beq_true, beq_false, Bool.not_eq_eq_eq_not, Bool.not_true, Bool.not_false, Bool.not_not, decide_eq_true_eq, decide_eq_false_iff_not, ge_iff_le, gt_iff_lt] at h)))
set_option maxHeartbeats 16000000 in
theorem states_L (l : List (List UInt8)) (hl : l.length ≤ 1000000) : callL Tryd.prog (ext11b chk) 55 [.list (l.map D.str)] [] = some (.bool (statesB l), [.no], []) := by
  have lN := lenM l D.str
  refine callK (m := 23) (res := [2]) (rs := [.tmp 2]) rfl Tryd.func55 rfl rfl rfl rfl rfl ?_
  have HL := Hd.mk hl
  clear hl
  obtain ⟨R, hR⟩ : ∃ R, Hd (R = statesG (l.take 0) (l.drop 0)) := ⟨_, rfl⟩
  rw [show statesB l = R from (show R = statesG (l.take 0) (l.drop 0) from hR).symm]
  repeat' (first
    | simp only [*, go_seq, go_block, go_loop, go_region, go_ops_nil, go_ops, okG_some, guardG, opG, isPtr, inB, sval, stake, eats, eaters, get, cval, cval1, croom, St.taken, put_slot, dem_none, entry_slot, ↓reduceIte, Nat.reduceLT, reduceCtorEq, decide_true, List.filterMap_cons, List.filterMap_nil, Option.map_some, List.getD_cons_zero, List.contains_cons, List.contains_nil, List.map_cons, List.map_nil, Bool.or_false, Bool.false_eq_true, row11, frz11, frzOf_def, frz_nil, List.length_nil, len24, frz11b]
    | (refine drW_intro (by kernel_rfl) ?_)
    | (refine gw_intro (fun h => ?_) (fun h => ?_) <;> (try simp only [beq_true, beq_false, Bool.not_eq_eq_eq_not, Bool.not_true, Bool.not_false, Bool.not_not, decide_eq_true_eq, decide_eq_false_iff_not, ge_iff_le, gt_iff_lt] at h)))
  refine loopH (fun st => ∃ i : Nat, i ≤ l.length ∧ st.slot 7 = .int .i64 i ∧ st.slot 5 = .list (l.map D.str) ∧ st.slot 6 = .int .i64 l.length ∧ st.slot 0 = .list (l.map D.str) ∧ st.slot 2 = .bool false ∧ st.room 2 = [] ∧ Hd (R = statesG (l.take i) (l.drop i))) (fun st => l.length - slotI st 7) ?_ ?_
  · refine ⟨0, Nat.zero_le _, ?_, ?_, ?_, ?_, ?_, ?_, hR⟩
    all_goals simp only [*, put_slot, put_room, entry_slot, ↓reduceIte, Nat.reduceEqDiff, reduceCtorEq, List.getD_cons_zero]
    all_goals rfl
  · rintro st K ⟨i, hi, g0, g1, g2, g3, g4, g5, hO⟩ hn hx hr
    have hl : l.length ≤ 1000000 := HL
    have hO' : R = statesG (l.take i) (l.drop i) := hO
    by_cases h : i < l.length
    · have g9 : (i : Int) < l.length := by omega
      have hw := wrapS i (by omega)
      obtain ⟨x, hx1⟩ := some_at h
      rw [statesG_at hx1] at hO'
      have ha := getD_map (f := D.str) hx1
      have q1 := dstate_L (chk := chk) x
      have q4 : callL Tryd.prog (ext11b chk) 52 [.list ((l.map D.str).take i), .str x] [] = some (.bool ((l.take i).contains x), [.no], []) := by
        rw [← List.map_take]
        exact contains_L (l.take i) x (by rw [List.length_take]; omega)
      have sz := szS l
      have gle : (i : Int) ≤ l.length := by omega
      generalize (l.take i).contains x = e5 at *
      generalize stS.contains x = e1 at *
      cases e1 with
      | false =>
        simp only [Bool.false_and] at hO'
        subst hO'
        clear hO hn hx hl hx1 hR sz
        repeat' (first
    | simp only [*, go_seq, go_cond, go_block, go_skip, go_retc, go_region, go_ops_nil, go_ops, okG_some, gwD_bool, cwD_bool, gw_true, gw_false, guardG, opG, isPtr, inB, sval, stake, eats, eaters, get, cval, cval1, croom, St.taken, put_slot, put_room, dem_none, dem_slot, dem_room, setBox_slot, setBox_room, ↓reduceIte, Nat.reduceEqDiff, Nat.reduceLT, decide_true, List.filterMap_cons, List.filterMap_nil, Option.bind_some, Option.map_some, Option.map_none, List.getElem?_cons_zero, List.getElem?_cons_succ, List.contains_cons, List.contains_nil, List.map_cons, List.map_nil, Bool.or_false, Bool.and_true, Nat.reduceBEq, Bool.false_eq_true, dbin, dIntBin, okR, callG, row11, frz11, frzOf_def, frz_nil, beq_false, Bool.not_true, Bool.not_false, pureB, leaf, leafN, List.all_cons, List.all_nil, List.nil_append, List.append_nil, List.length_nil, List.length_cons, dun, dcells, Nat.zero_add, Int.natCast_nonneg, Int.toNat_natCast, and_self, dp9, ia24, frz11b]
    | (refine drW_intro (by kernel_rfl) ?_)
    | (refine gw_intro (fun h => ?_) (fun h => ?_) <;> (try simp only [beq_true, beq_false, Bool.not_eq_eq_eq_not, Bool.not_true, Bool.not_false, Bool.not_not, decide_eq_true_eq, decide_eq_false_iff_not, ge_iff_le, gt_iff_lt] at h)))
        refine hr _ ?_
        repeat' (first
    | simp only [*, put_slot, put_room, put_box, dem_box, endQ, endR, endV, rvars, rvar, room1, ↓reduceIte, List.map_nil, pureB, leaf, leafN, List.take_nil, List.range_zero, and_self]
    | (refine drW_intro (by kernel_rfl) ?_)
    | (refine gw_intro (fun h => ?_) (fun h => ?_) <;> (try simp only [beq_true, beq_false, Bool.not_eq_eq_eq_not, Bool.not_true, Bool.not_false, Bool.not_not, decide_eq_true_eq, decide_eq_false_iff_not, ge_iff_le, gt_iff_lt] at h)))
      | true =>
        cases e5 with
        | true =>
          simp only [Bool.not_true, Bool.false_and, Bool.true_and] at hO'
          subst hO'
          clear hO hn hx hl hx1 hR
          repeat' (first
    | simp only [*, go_seq, go_cond, go_block, go_skip, go_retc, go_region, go_ops_nil, go_ops, okG_some, gwD_bool, cwD_bool, gw_true, guardG, opG, isPtr, inB, sval, stake, eats, eaters, get, cval, cval1, croom, St.taken, put_slot, put_room, dem_none, dem_slot, dem_room, setBox_slot, setBox_room, ↓reduceIte, Nat.reduceEqDiff, Nat.reduceLT, reduceCtorEq, decide_true, List.filterMap_cons, List.filterMap_nil, Option.bind_some, Option.map_some, Option.map_none, List.getElem?_cons_zero, List.getElem?_cons_succ, List.contains_cons, List.contains_nil, List.map_cons, List.map_nil, beq_self_eq_true, Bool.or_false, Bool.and_true, Nat.reduceBEq, Bool.false_eq_true, dbin, dIntBin, okR, callG, row11, frz11, frzOf_def, frz_nil, Bool.not_true, pureB, leaf, leafN, List.all_cons, List.all_nil, List.nil_append, List.append_nil, List.length_nil, List.length_cons, dun, List.drop_zero, dcells, Nat.zero_add, Int.natCast_nonneg, Int.toNat_natCast, and_self, dopt, dbound, dp9, ia24, sl24, frz11b]
    | (refine drW_intro (by kernel_rfl) ?_)
    | (refine gw_intro (fun h => ?_) (fun h => ?_) <;> (try simp only [beq_true, beq_false, Bool.not_eq_eq_eq_not, Bool.not_true, Bool.not_false, Bool.not_not, decide_eq_true_eq, decide_eq_false_iff_not, ge_iff_le, gt_iff_lt] at h)))
          refine hr _ ?_
          repeat' (first
    | simp only [*, put_slot, put_room, put_box, dem_box, endQ, endR, endV, rvars, rvar, room1, ↓reduceIte, List.map_nil, pureB, leaf, leafN, List.take_nil, List.range_zero, and_self]
    | (refine drW_intro (by kernel_rfl) ?_)
    | (refine gw_intro (fun h => ?_) (fun h => ?_) <;> (try simp only [beq_true, beq_false, Bool.not_eq_eq_eq_not, Bool.not_true, Bool.not_false, Bool.not_not, decide_eq_true_eq, decide_eq_false_iff_not, ge_iff_le, gt_iff_lt] at h)))
        | false =>
          simp only [Bool.not_false, Bool.true_and] at hO'
          have HO := Hd.mk hO'
          clear hO hO' hx hr hl hx1
          repeat' (first
    | simp only [*, go_nil, go_seq, go_cond, go_block, go_blk, go_skip, go_region, go_ops_nil, go_ops, okG_some, gwD_bool, cwD_bool, gw_true, gw_false, guardG, opG, isPtr, inB, sval, stake, eats, eaters, get, cval, cval1, croom, St.taken, put_slot, put_room, dem_none, dem_slot, dem_room, setBox_slot, setBox_room, ↓reduceIte, Nat.reduceEqDiff, Nat.reduceLT, reduceCtorEq, decide_true, List.filterMap_cons, List.filterMap_nil, Option.bind_some, Option.map_some, Option.map_none, List.getElem?_cons_zero, List.getElem?_cons_succ, List.contains_cons, List.contains_nil, List.map_cons, List.map_nil, beq_self_eq_true, Bool.or_false, Bool.and_true, Nat.reduceBEq, Bool.false_eq_true, dbin, dIntBin, okR, callG, row11, frz11, frzOf_def, frz_nil, Bool.not_true, pureB, leaf, leafN, List.all_cons, List.all_nil, List.nil_append, List.append_nil, List.length_nil, List.length_cons, dun, List.drop_zero, dcells, Nat.zero_add, Int.natCast_nonneg, Int.toNat_natCast, and_self, dopt, dbound, dp9, ia24, sl24, frz11b]
    | (refine drW_intro (by kernel_rfl) ?_)
    | (refine gw_intro (fun h => ?_) (fun h => ?_) <;> (try simp only [beq_true, beq_false, Bool.not_eq_eq_eq_not, Bool.not_true, Bool.not_false, Bool.not_not, decide_eq_true_eq, decide_eq_false_iff_not, ge_iff_le, gt_iff_lt] at h)))
          refine hn _ ⟨i + 1, h, ?_, ?_, ?_, ?_, ?_, ?_, HO⟩ ?_
          · simp only [*, put_slot, ↓reduceIte]
          · simp only [*, put_slot, dem_slot, ↓reduceIte, Nat.reduceEqDiff]
          · simp only [*, put_slot, dem_slot, ↓reduceIte, Nat.reduceEqDiff]
          · simp only [*, put_slot, dem_slot, ↓reduceIte, reduceCtorEq]
          · simp only [*, put_slot, dem_slot, ↓reduceIte, Nat.reduceEqDiff]
          · simp only [*, put_room, dem_room, ↓reduceIte, Nat.reduceEqDiff]
          · simp only [slotI, *, put_slot, ↓reduceIte, Int.toNat_natCast]
            omega
    · have g9 : ¬ (i : Int) < l.length := by omega
      rw [statesG_end (by omega)] at hO'
      subst hO'
      clear hO hn hr hl hR
      repeat' (first
    | simp only [*, go_nil, go_seq, go_cond, go_exit, go_xcode, go_region, go_ops_nil, go_ops, okG_some, cwD_bool, gw_false, guardG, opG, inB, sval, stake, eats, eaters, get, put_slot, dem_none, ↓reduceIte, Nat.reduceLT, decide_true, decide_false, List.filterMap_cons, List.filterMap_nil, Option.map_some, List.contains_cons, List.contains_nil, Bool.or_false, Bool.false_eq_true, dbin, dIntBin, row11, frz_nil, frz11b]
    | (refine drW_intro (by kernel_rfl) ?_)
    | (refine gw_intro (fun h => ?_) (fun h => ?_) <;> (try simp only [beq_true, beq_false, Bool.not_eq_eq_eq_not, Bool.not_true, Bool.not_false, Bool.not_not, decide_eq_true_eq, decide_eq_false_iff_not, ge_iff_le, gt_iff_lt] at h)))
      refine hx _ _ ?_
      repeat' (first
    | simp only [*, go_seq, go_retc, go_xblk, go_region, go_ops_nil, go_ops, okG_some, guardG, opG, inB, sval, stake, eats, eaters, get, cval, cval1, croom, put_slot, put_room, put_box, dem_none, endQ, endR, endV, rvars, rvar, room1, ↓reduceIte, Nat.reduceLT, decide_true, List.filterMap_cons, List.filterMap_nil, List.contains_cons, List.contains_nil, List.map_nil, Bool.or_false, Bool.false_eq_true, row11, frz_nil, pureB, leaf, leafN, List.take_nil, List.range_zero, and_self, frz11b]
    | (refine drW_intro (by kernel_rfl) ?_)
    | (refine gw_intro (fun h => ?_) (fun h => ?_) <;> (try simp only [beq_true, beq_false, Bool.not_eq_eq_eq_not, Bool.not_true, Bool.not_false, Bool.not_not, decide_eq_true_eq, decide_eq_false_iff_not, ge_iff_le, gt_iff_lt] at h)))
end Go.Av
