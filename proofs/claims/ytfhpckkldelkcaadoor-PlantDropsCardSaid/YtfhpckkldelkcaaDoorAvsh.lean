/- The evaluator, in one text: over any program; no conditions but those that each law names. -/
import Derived.Test.YtfhpckkldelkcaaDoorAvsf
set_option linter.unusedSimpArgs false
set_option linter.unusedVariables false
set_option linter.unusedSectionVars false
/- Chapter 17: which nodes may be dropped, what is left: both sides (gen_mh.py). -/
set_option linter.unusedSimpArgs false
set_option linter.unusedVariables false
set_option linter.unusedSectionVars false
set_option maxRecDepth 100000
namespace Go.Av
open Go.Proofs
variable [Ek] {chk : List D → Bool}
def parQ (q : Int) (n : Nd) : Bool := n.p == q
theorem par1_L (n : Nd) (q : Int) : callL Tryd.prog (ext11b chk) 50 [n.d, .fix (.agg [.int .i64 q]) 0] [] = some (.bool (parQ q n), [.no], []) := by
  unfold parQ
  rw [ndat]
  generalize n.at_.map At.d = LA at *
  generalize n.st.map D.str = LS at *
  refine callK (m := 8) (res := [3]) (rs := [.tmp 3]) rfl Tryd.func50 rfl rfl rfl rfl rfl ?_
  repeat' (first
    | simp only [*, guardG, opG, inB, sval, stake, eats, eaters, get, cval, cval1, croom, St.taken, endQ, endR, endV, rvars, rvar, room1, ↓reduceIte, Nat.reduceEqDiff, Nat.reduceLT, List.filterMap_cons, List.filterMap_nil, Option.map_some, List.getElem?_cons_zero, List.getD_cons_zero, List.getD_cons_succ, List.contains_cons, List.contains_nil, List.map_nil, beq_self_eq_true, Nat.reduceBEq, dbin, dIntBin, pureB, leaf, leafN, List.all_cons, List.all_nil, List.append_nil, List.take_nil, List.length_nil, List.length_cons, List.getElem?_nil, dcells, Nat.reduceAdd, stepBox, takes, given, oroom, vroom, notAgg, ite_self, AVB]
    | (refine drW_intro (by kernel_rfl) ?_)
    | (refine gw_intro (fun h => ?_) (fun h => ?_) <;> (try simp only [beq_true, beq_false, Bool.not_eq_eq_eq_not, Bool.not_true, Bool.not_false, Bool.not_not, decide_eq_true_eq, decide_eq_false_iff_not, ge_iff_le, gt_iff_lt] at h)))
set_option maxHeartbeats 4000000 in
theorem idxd_L (l : List Nd) (q : Int) (hl : l.length ≤ 1000000) : callL Tryd.prog (ext11b chk) 63 [.list (l.map Nd.d), .func (.func 50) [] [.fix (.agg [.int .i64 q]) 0]] [] = some (.int .i64 (idxN (parQ q) 0 l), [.no], []) := by
  have lN := lenM l Nd.d
  refine callK (m := 19) (res := [4]) (rs := [.tmp 4]) rfl Tryd.func63 rfl rfl rfl rfl rfl ?_
  have HL := Hd.mk hl
  clear hl
  obtain ⟨R, hR⟩ : ∃ R, Hd (R = idxN (parQ q) 0 l) := ⟨_, rfl⟩
  rw [← (show R = idxN (parQ q) 0 l from hR)]
  repeat' (first
    | simp only [*, guardG, opG, inB, sval, stake, eats, eaters, get, cval, cval1, croom, St.taken, ↓reduceIte, Nat.reduceLT, reduceCtorEq, List.filterMap_cons, List.filterMap_nil, Option.map_some, Option.bind_none, List.getD_cons_zero, List.contains_cons, List.contains_nil, Nat.reduceBEq, List.append_nil, List.length_nil, ptrArgs, callArgs, vroom, Option.isSome_none, AVB]
    | (refine drW_intro (by kernel_rfl) ?_)
    | (refine gw_intro (fun h => ?_) (fun h => ?_) <;> (try simp only [beq_true, beq_false, Bool.not_eq_eq_eq_not, Bool.not_true, Bool.not_false, Bool.not_not, decide_eq_true_eq, decide_eq_false_iff_not, ge_iff_le, gt_iff_lt] at h)))
  refine loopH (fun st => ∃ i : Nat, i ≤ l.length ∧ st.slot 8 = .int .i64 i ∧ st.slot 7 = .int .i64 l.length ∧ st.slot 0 = .list (l.map Nd.d) ∧ st.slot 1 = .func (.func 50) [] [.fix (.agg [.int .i64 q]) 0] ∧ st.slot 4 = .int .i64 0 ∧ st.room 4 = [] ∧ Hd (R = idxN (parQ q) i (l.drop i))) (fun st => l.length - slotI st 8) ?_ ?_
  · refine ⟨0, Nat.zero_le _, ?_, ?_, ?_, ?_, ?_, ?_, hR⟩
    all_goals simp only [*, put_slot, put_room, entry_slot, ↓reduceIte, Nat.reduceEqDiff, reduceCtorEq, List.getD_cons_zero, List.getD_cons_succ]
    all_goals rfl
  · rintro st K ⟨i, hi, g0, g1, g2, g3, g4, g5, hO⟩ hn hx hr
    have hl : l.length ≤ 1000000 := HL
    have hO' : R = idxN (parQ q) i (l.drop i) := hO
    by_cases h : i < l.length
    · have g9 : (i : Int) < l.length := by omega
      have hw := wrapS i (by omega)
      obtain ⟨x, hx1⟩ := some_at h
      rw [idxN_at _ hx1] at hO'
      have ha := getD_map (f := Nd.d) hx1
      rw [ndat] at ha
      have hc := par1_L (chk := chk) x q
      rw [ndat] at hc
      cases he : parQ q x with
      | true =>
        rw [he] at hO' hc
        rw [if_pos rfl] at hO'
        subst hO'
        clear hO hn hx hl hx1 hR
        generalize x.at_.map At.d = LA at *
        generalize x.st.map D.str = LS at *
        repeat' (first
    | simp only [*, guardG, opG, inB, sval, stake, eats, eaters, get, St.taken, ↓reduceIte, Nat.reduceEqDiff, Nat.reduceLT, reduceCtorEq, List.filterMap_cons, List.filterMap_nil, Option.bind_some, Option.map_some, List.contains_cons, List.contains_nil, List.map_cons, List.map_nil, beq_self_eq_true, Nat.reduceBEq, dbin, dIntBin, okR, callG, pureB, leaf, leafN, List.all_cons, List.all_nil, List.nil_append, List.cons_append, List.append_nil, List.length_nil, List.length_cons, dcells, Nat.reduceAdd, takes, ptrArgs, callArgs, Option.isSome_none, List.cons_append, List.nil_append, AVB]
    | (refine drW_intro (by kernel_rfl) ?_)
    | (refine gw_intro (fun h => ?_) (fun h => ?_) <;> (try simp only [beq_true, beq_false, Bool.not_eq_eq_eq_not, Bool.not_true, Bool.not_false, Bool.not_not, decide_eq_true_eq, decide_eq_false_iff_not, ge_iff_le, gt_iff_lt] at h)))
        refine hr _ ?_
        repeat' (first
    | simp only [*, put_slot, put_room, put_box, dem_box, endQ, endR, endV, rvars, rvar, room1, ↓reduceIte, List.map_nil, pureB, leaf, leafN, List.take_nil, List.range_zero, and_self, notAgg]
    | (refine drW_intro (by kernel_rfl) ?_)
    | (refine gw_intro (fun h => ?_) (fun h => ?_) <;> (try simp only [beq_true, beq_false, Bool.not_eq_eq_eq_not, Bool.not_true, Bool.not_false, Bool.not_not, decide_eq_true_eq, decide_eq_false_iff_not, ge_iff_le, gt_iff_lt] at h)))
      | false =>
        rw [he] at hO' hc
        rw [if_neg (by decide)] at hO'
        have HO := Hd.mk hO'
        clear hO hO' hx hr hl hx1
        generalize x.at_.map At.d = LA at *
        generalize x.st.map D.str = LS at *
        repeat' (first
    | simp only [*, guardG, opG, inB, sval, stake, eats, eaters, get, cval, cval1, St.taken, ↓reduceIte, Nat.reduceEqDiff, Nat.reduceLT, reduceCtorEq, List.filterMap_cons, List.filterMap_nil, Option.bind_some, Option.map_some, List.contains_cons, List.contains_nil, List.map_cons, List.map_nil, beq_self_eq_true, Nat.reduceBEq, dbin, dIntBin, okR, callG, pureB, leaf, leafN, List.all_cons, List.all_nil, List.nil_append, List.cons_append, List.append_nil, List.length_nil, List.length_cons, dcells, Nat.reduceAdd, takes, ptrArgs, callArgs, Option.isSome_none, List.cons_append, List.nil_append, AVB]
    | (refine drW_intro (by kernel_rfl) ?_)
    | (refine gw_intro (fun h => ?_) (fun h => ?_) <;> (try simp only [beq_true, beq_false, Bool.not_eq_eq_eq_not, Bool.not_true, Bool.not_false, Bool.not_not, decide_eq_true_eq, decide_eq_false_iff_not, ge_iff_le, gt_iff_lt] at h)))
        refine hn _ ⟨i + 1, h, ?_, ?_, ?_, ?_, ?_, ?_, HO⟩ ?_
        · simp only [*, put_slot, ↓reduceIte]
        · simp only [*, put_slot, dem_slot, ↓reduceIte, Nat.reduceEqDiff]
        · simp only [*, put_slot, dem_slot, ↓reduceIte, reduceCtorEq]
        · simp only [*, put_slot, dem_slot, ↓reduceIte, Nat.reduceEqDiff]
        · simp only [*, put_slot, dem_slot, ↓reduceIte, Nat.reduceEqDiff]
        · simp only [*, put_room, dem_room, ↓reduceIte, Nat.reduceEqDiff]
        · simp only [slotI, *, put_slot, ↓reduceIte, Int.toNat_natCast]
          omega
    · have g9 : ¬ (i : Int) < l.length := by omega
      rw [idxN_end _ (by omega)] at hO'
      subst hO'
      clear hO hn hr hl hR
      repeat' (first
    | simp only [*, guardG, opG, inB, sval, stake, eats, eaters, get, ↓reduceIte, Nat.reduceLT, List.filterMap_cons, List.filterMap_nil, Option.map_some, List.contains_cons, List.contains_nil, dbin, dIntBin, List.append_nil, AVB]
    | (refine drW_intro (by kernel_rfl) ?_)
    | (refine gw_intro (fun h => ?_) (fun h => ?_) <;> (try simp only [beq_true, beq_false, Bool.not_eq_eq_eq_not, Bool.not_true, Bool.not_false, Bool.not_not, decide_eq_true_eq, decide_eq_false_iff_not, ge_iff_le, gt_iff_lt] at h)))
      refine hx _ _ ?_
      repeat' (first
    | simp only [*, guardG, opG, inB, sval, stake, eats, eaters, get, cval, cval1, croom, endQ, endR, endV, rvars, rvar, room1, ↓reduceIte, Nat.reduceLT, List.filterMap_cons, List.filterMap_nil, List.contains_cons, List.contains_nil, List.map_nil, pureB, leaf, leafN, List.append_nil, List.take_nil, vroom, notAgg, AVB]
    | (refine drW_intro (by kernel_rfl) ?_)
    | (refine gw_intro (fun h => ?_) (fun h => ?_) <;> (try simp only [beq_true, beq_false, Bool.not_eq_eq_eq_not, Bool.not_true, Bool.not_false, Bool.not_not, decide_eq_true_eq, decide_eq_false_iff_not, ge_iff_le, gt_iff_lt] at h)))
theorem hasc_L (l : List Nd) (q : Int) (hl : l.length ≤ 1000000) : callL Tryd.prog (ext11b chk) 49 [.list (l.map Nd.d), .func (.func 50) [] [.fix (.agg [.int .i64 q]) 0]] [] = some (.bool (l.any (parQ q)), [.no], []) := by
  have h := idxd_L (chk := chk) l q hl
  rw [← idxN_ge (parQ q) l 0]
  clear hl
  generalize idxN (parQ q) 0 l = R at *
  generalize l.map Nd.d = L at *
  refine callK (m := 9) (res := [4]) (rs := [.tmp 4]) rfl Tryd.func49 rfl rfl rfl rfl rfl ?_
  repeat' (first
    | simp only [*, guardG, opG, inB, sval, stake, eats, eaters, get, cval, cval1, croom, St.taken, endQ, endR, endV, rvars, rvar, room1, ↓reduceIte, Nat.reduceEqDiff, Nat.reduceLT, reduceCtorEq, List.filterMap_cons, List.filterMap_nil, Option.bind_some, Option.map_some, List.getD_cons_zero, List.getD_cons_succ, List.contains_cons, List.contains_nil, List.map_cons, List.map_nil, beq_self_eq_true, Nat.reduceBEq, dbin, dIntBin, okR, callG, pureB, leaf, leafN, List.all_cons, List.all_nil, List.nil_append, List.append_nil, List.take_nil, List.length_nil, List.getElem?_nil, ge_iff_le, ptrArgs, callArgs, vroom, Option.isSome_none, notAgg, ite_self, List.nil_append, AVB]
    | (refine drW_intro (by kernel_rfl) ?_)
    | (refine gw_intro (fun h => ?_) (fun h => ?_) <;> (try simp only [beq_true, beq_false, Bool.not_eq_eq_eq_not, Bool.not_true, Bool.not_false, Bool.not_not, decide_eq_true_eq, decide_eq_false_iff_not, ge_iff_le, gt_iff_lt] at h)))
def mayF (ns : List Nd) (i : Nat) : Bool := !(ns.any (parQ i)) && !(kAt ns i == 1 && decide (pAt ns i < 0))
theorem drop_L (ns : List Nd) (i : Nat) (hi : i < ns.length) (hl : ns.length ≤ 10000) : callL Tryd.prog (ext11b chk) 34 [.list (ns.map Nd.d), .int .i64 (i : Int)] [] = some (.bool (mayF ns i), [.no], []) := by
  have h := hasc_L (chk := chk) ns i (by omega)
  have lN := lenM ns Nd.d
  obtain ⟨n, hn⟩ := some_at hi
  have hb := getD_map (f := Nd.d) hn
  rw [ndat] at hb
  have g9 : (i : Int) < ns.length := by omega
  unfold mayF
  have hk : kAt ns i = n.k := by unfold kAt; rw [hn]
  have hp : pAt ns i = n.p := by unfold pAt; rw [hn]
  rw [hk, hp]
  generalize ns.any (parQ i) = R at *
  clear hn hk hp hi
  generalize n.at_.map At.d = LA at *
  generalize n.st.map D.str = LS at *
  generalize ns.map Nd.d = NS at *
  by_cases c1 : n.k = 1
  · have b1 : (n.k == 1) = true := by simpa using c1
    by_cases c2 : n.p < 0
    · rw [b1, decide_eq_true c2]
      clear c1
      cases R
      · refine callK (m := 23) (res := [4]) (rs := [.tmp 4]) rfl Tryd.func34 rfl rfl rfl rfl rfl ?_
        repeat' (first
    | simp only [*, guardG, opG, inB, sval, stake, eats, eaters, get, cval, cval1, croom, St.taken, endQ, endR, endV, rvars, rvar, room1, ↓reduceIte, Nat.reduceEqDiff, Nat.reduceLT, reduceCtorEq, List.filterMap_cons, List.filterMap_nil, Option.bind_some, Option.map_some, List.getElem?_cons_zero, List.getElem?_cons_succ, List.getD_cons_zero, List.getD_cons_succ, List.contains_cons, List.contains_nil, List.map_nil, beq_self_eq_true, Nat.reduceBEq, dbin, dIntBin, pureB, leaf, leafN, List.append_nil, List.take_nil, List.length_nil, List.length_cons, List.getElem?_nil, dcells, Nat.reduceAdd, stepBox, dStrBin, takes, given, oroom, vroom, stepTake, notAgg, ite_self, dNilEq, isLit, AVB]
    | (refine drW_intro (by kernel_rfl) ?_)
    | (refine gw_intro (fun h => ?_) (fun h => ?_) <;> (try simp only [beq_true, beq_false, Bool.not_eq_eq_eq_not, Bool.not_true, Bool.not_false, Bool.not_not, decide_eq_true_eq, decide_eq_false_iff_not, ge_iff_le, gt_iff_lt] at h)))
      · refine callK (m := 23) (res := [4]) (rs := [.tmp 4]) rfl Tryd.func34 rfl rfl rfl rfl rfl ?_
        repeat' (first
    | simp only [*, guardG, opG, inB, sval, stake, eats, eaters, get, cval, cval1, croom, St.taken, endQ, endR, endV, rvars, rvar, room1, ↓reduceIte, Nat.reduceEqDiff, Nat.reduceLT, reduceCtorEq, List.filterMap_cons, List.filterMap_nil, Option.bind_some, Option.map_some, List.getElem?_cons_zero, List.getElem?_cons_succ, List.getD_cons_zero, List.getD_cons_succ, List.contains_cons, List.contains_nil, List.map_nil, beq_self_eq_true, Nat.reduceBEq, dbin, dIntBin, pureB, leaf, leafN, List.append_nil, List.take_nil, List.length_nil, List.length_cons, List.getElem?_nil, dcells, Nat.reduceAdd, stepBox, dStrBin, takes, given, oroom, vroom, stepTake, notAgg, ite_self, dNilEq, isLit, AVB]
    | (refine drW_intro (by kernel_rfl) ?_)
    | (refine gw_intro (fun h => ?_) (fun h => ?_) <;> (try simp only [beq_true, beq_false, Bool.not_eq_eq_eq_not, Bool.not_true, Bool.not_false, Bool.not_not, decide_eq_true_eq, decide_eq_false_iff_not, ge_iff_le, gt_iff_lt] at h)))
    · rw [b1, decide_eq_false c2]
      clear c1
      cases R
      · refine callK (m := 23) (res := [4]) (rs := [.tmp 4]) rfl Tryd.func34 rfl rfl rfl rfl rfl ?_
        repeat' (first
    | simp only [*, upd, guardG, opG, inB, sval, stake, eats, eaters, get, cval, cval1, croom, St.taken, endQ, endR, endV, rvars, rvar, room1, ↓reduceIte, Nat.reduceEqDiff, Nat.reduceLT, reduceCtorEq, List.filterMap_cons, List.filterMap_nil, Option.bind_some, Option.map_some, List.getElem?_cons_zero, List.getElem?_cons_succ, List.getD_cons_zero, List.getD_cons_succ, List.contains_cons, List.contains_nil, List.map_cons, List.map_nil, beq_self_eq_true, Nat.reduceBEq, dbin, dIntBin, okR, callG, frzD, pureB, leaf, leafN, List.all_cons, List.all_nil, List.nil_append, List.append_nil, List.take_nil, List.length_nil, List.length_cons, dun, List.getElem?_nil, dcells, Nat.reduceAdd, stepBox, St.freeze, dStrBin, takes, ptrArgs, callArgs, given, oroom, vroom, Option.isSome_none, stepTake, notAgg, ite_self, dNilEq, isLit, List.nil_append, AVB]
    | (refine drW_intro (by kernel_rfl) ?_)
    | (refine gw_intro (fun h => ?_) (fun h => ?_) <;> (try simp only [beq_true, beq_false, Bool.not_eq_eq_eq_not, Bool.not_true, Bool.not_false, Bool.not_not, decide_eq_true_eq, decide_eq_false_iff_not, ge_iff_le, gt_iff_lt] at h)))
      · refine callK (m := 23) (res := [4]) (rs := [.tmp 4]) rfl Tryd.func34 rfl rfl rfl rfl rfl ?_
        repeat' (first
    | simp only [*, upd, guardG, opG, inB, sval, stake, eats, eaters, get, cval, cval1, croom, St.taken, endQ, endR, endV, rvars, rvar, room1, ↓reduceIte, Nat.reduceEqDiff, Nat.reduceLT, reduceCtorEq, List.filterMap_cons, List.filterMap_nil, Option.bind_some, Option.map_some, List.getElem?_cons_zero, List.getElem?_cons_succ, List.getD_cons_zero, List.getD_cons_succ, List.contains_cons, List.contains_nil, List.map_cons, List.map_nil, beq_self_eq_true, Nat.reduceBEq, dbin, dIntBin, okR, callG, frzD, pureB, leaf, leafN, List.all_cons, List.all_nil, List.nil_append, List.append_nil, List.take_nil, List.length_nil, List.length_cons, dun, List.getElem?_nil, dcells, Nat.reduceAdd, stepBox, St.freeze, dStrBin, takes, ptrArgs, callArgs, given, oroom, vroom, Option.isSome_none, stepTake, notAgg, ite_self, dNilEq, isLit, List.nil_append, AVB]
    | (refine drW_intro (by kernel_rfl) ?_)
    | (refine gw_intro (fun h => ?_) (fun h => ?_) <;> (try simp only [beq_true, beq_false, Bool.not_eq_eq_eq_not, Bool.not_true, Bool.not_false, Bool.not_not, decide_eq_true_eq, decide_eq_false_iff_not, ge_iff_le, gt_iff_lt] at h)))
  · have b1 : (n.k == 1) = false := by simpa using c1
    rw [b1]
    clear c1
    cases R
    · refine callK (m := 23) (res := [4]) (rs := [.tmp 4]) rfl Tryd.func34 rfl rfl rfl rfl rfl ?_
      repeat' (first
    | simp only [*, upd, guardG, opG, inB, sval, stake, eats, eaters, get, cval, cval1, croom, St.taken, endQ, endR, endV, rvars, rvar, room1, ↓reduceIte, Nat.reduceEqDiff, Nat.reduceLT, reduceCtorEq, List.filterMap_cons, List.filterMap_nil, Option.bind_some, Option.map_some, List.getElem?_cons_zero, List.getElem?_cons_succ, List.getD_cons_zero, List.getD_cons_succ, List.contains_cons, List.contains_nil, List.map_cons, List.map_nil, beq_self_eq_true, Nat.reduceBEq, dbin, dIntBin, okR, callG, frzD, pureB, leaf, leafN, List.all_cons, List.all_nil, List.nil_append, List.append_nil, List.take_nil, List.length_nil, List.length_cons, dun, List.getElem?_nil, dcells, Nat.reduceAdd, stepBox, St.freeze, dStrBin, takes, ptrArgs, callArgs, given, oroom, vroom, Option.isSome_none, stepTake, notAgg, ite_self, dNilEq, isLit, List.nil_append, AVB]
    | (refine drW_intro (by kernel_rfl) ?_)
    | (refine gw_intro (fun h => ?_) (fun h => ?_) <;> (try simp only [beq_true, beq_false, Bool.not_eq_eq_eq_not, Bool.not_true, Bool.not_false, Bool.not_not, decide_eq_true_eq, decide_eq_false_iff_not, ge_iff_le, gt_iff_lt] at h)))
    · refine callK (m := 23) (res := [4]) (rs := [.tmp 4]) rfl Tryd.func34 rfl rfl rfl rfl rfl ?_
      repeat' (first
    | simp only [*, upd, guardG, opG, inB, sval, stake, eats, eaters, get, cval, cval1, croom, St.taken, endQ, endR, endV, rvars, rvar, room1, ↓reduceIte, Nat.reduceEqDiff, Nat.reduceLT, reduceCtorEq, List.filterMap_cons, List.filterMap_nil, Option.bind_some, Option.map_some, List.getElem?_cons_zero, List.getElem?_cons_succ, List.getD_cons_zero, List.getD_cons_succ, List.contains_cons, List.contains_nil, List.map_cons, List.map_nil, beq_self_eq_true, Nat.reduceBEq, dbin, dIntBin, okR, callG, frzD, pureB, leaf, leafN, List.all_cons, List.all_nil, List.nil_append, List.append_nil, List.take_nil, List.length_nil, List.length_cons, dun, List.getElem?_nil, dcells, Nat.reduceAdd, stepBox, St.freeze, dStrBin, takes, ptrArgs, callArgs, given, oroom, vroom, Option.isSome_none, stepTake, notAgg, ite_self, dNilEq, isLit, List.nil_append, AVB]
    | (refine drW_intro (by kernel_rfl) ?_)
    | (refine gw_intro (fun h => ?_) (fun h => ?_) <;> (try simp only [beq_true, beq_false, Bool.not_eq_eq_eq_not, Bool.not_true, Bool.not_false, Bool.not_not, decide_eq_true_eq, decide_eq_false_iff_not, ge_iff_le, gt_iff_lt] at h)))
set_option maxHeartbeats 8000000 in
theorem may_L (ns : List Nd) (i : Nat) (hi : i < ns.length) (hl : ns.length ≤ 10000) : callL Tryd.prog (ext11b chk) 16 [.list (ns.map Nd.d), .int .i64 (i : Int)] [] = some (.bool (mayF ns i), [.no], []) := by
  have lN := lenM ns Nd.d
  obtain ⟨n, hn0⟩ := some_at hi
  have hb0 := getD_map (f := Nd.d) hn0
  rw [ndat] at hb0
  have g90 : (i : Int) < ns.length := by omega
  have hk : kAt ns i = n.k := by unfold kAt; rw [hn0]
  have hp : pAt ns i = n.p := by unfold pAt; rw [hn0]
  obtain ⟨R, hR⟩ : ∃ R, Hd (R = ns.any (parQ i)) := ⟨_, rfl⟩
  have hm : mayF ns i = (!R && !(n.k == 1 && decide (n.p < 0))) := by
    unfold mayF
    rw [hk, hp, show R = ns.any (parQ i) from hR]
  rw [hm]
  have HL := Hd.mk hl
  clear hk hp hm hl hi hn0
  refine callK (m := 33) (res := [4]) (rs := [.tmp 4]) rfl Tryd.func16 rfl rfl rfl rfl rfl ?_
  repeat' (first
    | simp only [*, guardG, opG, inB, sval, stake, eats, eaters, get, cval, cval1, croom, ↓reduceIte, Nat.reduceLT, List.filterMap_cons, List.filterMap_nil, List.contains_cons, List.contains_nil, List.append_nil, List.length_nil, vroom, AVB]
    | (refine drW_intro (by kernel_rfl) ?_)
    | (refine gw_intro (fun h => ?_) (fun h => ?_) <;> (try simp only [beq_true, beq_false, Bool.not_eq_eq_eq_not, Bool.not_true, Bool.not_false, Bool.not_not, decide_eq_true_eq, decide_eq_false_iff_not, ge_iff_le, gt_iff_lt] at h)))
  refine loopH (fun st => ∃ j : Nat, j ≤ ns.length ∧ st.slot 5 = .int .i64 j ∧ st.slot 0 = .list (ns.map Nd.d) ∧ st.slot 1 = .int .i64 i ∧ Hd (R = (ns.drop j).any (parQ i))) (fun st => ns.length - slotI st 5) ?_ ?_
  · refine ⟨0, Nat.zero_le _, ?_, ?_, ?_, hR⟩
    all_goals simp only [*, put_slot, entry_slot, ↓reduceIte, Nat.reduceEqDiff, reduceCtorEq, List.getD_cons_zero, List.getD_cons_succ]
    all_goals rfl
  · rintro st K ⟨j, hj, g5, g0, g1, hO⟩ hn hx hr
    have hl : ns.length ≤ 10000 := HL
    have hO' : R = (ns.drop j).any (parQ i) := hO
    by_cases h : j < ns.length
    · have g9 : (j : Int) < ns.length := by omega
      have hw := wrapS j (by omega)
      obtain ⟨x, hx1⟩ := some_at h
      rw [any_drop _ hx1] at hO'
      have ha := getD_map (f := Nd.d) hx1
      rw [ndat] at ha
      unfold parQ at hO'
      have HI := Hd.mk h
      clear hx1 hl h hb0 g90 hO hx
      generalize x.at_.map At.d = XA at *
      generalize x.st.map D.str = XS at *
      cases hq : (x.p == (i : Int)) with
      | true =>
        rw [hq, Bool.true_or] at hO'
        subst hO'
        clear hn hR
        repeat' (first
    | simp only [*, guardG, opG, inB, sval, stake, eats, eaters, get, cval, cval1, croom, St.taken, ↓reduceIte, Nat.reduceEqDiff, Nat.reduceLT, reduceCtorEq, List.filterMap_cons, List.filterMap_nil, Option.map_some, Option.bind_none, List.getElem?_cons_zero, List.contains_cons, List.contains_nil, Nat.reduceBEq, dbin, dIntBin, List.append_nil, List.length_nil, List.length_cons, dcells, Nat.reduceAdd, takes, ptrArgs, callArgs, vroom, Option.isSome_none, AVB]
    | (refine drW_intro (by kernel_rfl) ?_)
    | (refine gw_intro (fun h => ?_) (fun h => ?_) <;> (try simp only [beq_true, beq_false, Bool.not_eq_eq_eq_not, Bool.not_true, Bool.not_false, Bool.not_not, decide_eq_true_eq, decide_eq_false_iff_not, ge_iff_le, gt_iff_lt] at h)))
        refine hr _ ?_
        repeat' (first
    | simp only [*, put_slot, put_room, put_box, endQ, endR, endV, rvars, rvar, room1, ↓reduceIte, List.map_nil, Bool.not_true, pureB, leaf, leafN, List.take_nil, List.range_zero, Bool.false_and, and_self, notAgg]
    | (refine drW_intro (by kernel_rfl) ?_)
    | (refine gw_intro (fun h => ?_) (fun h => ?_) <;> (try simp only [beq_true, beq_false, Bool.not_eq_eq_eq_not, Bool.not_true, Bool.not_false, Bool.not_not, decide_eq_true_eq, decide_eq_false_iff_not, ge_iff_le, gt_iff_lt] at h)))
      | false =>
        rw [hq, Bool.false_or] at hO'
        have HO2 : Hd (R = (ns.drop (j + 1)).any (parQ i)) := hO'
        clear hO'
        repeat' (first
    | simp only [*, guardG, opG, inB, sval, stake, eats, eaters, get, cval, cval1, St.taken, ↓reduceIte, Nat.reduceEqDiff, Nat.reduceLT, reduceCtorEq, List.filterMap_cons, List.filterMap_nil, Option.map_some, Option.bind_none, List.getElem?_cons_zero, List.contains_cons, List.contains_nil, beq_self_eq_true, Nat.reduceBEq, dbin, dIntBin, List.append_nil, List.length_nil, List.length_cons, dcells, Nat.reduceAdd, takes, ptrArgs, callArgs, Option.isSome_none, AVB]
    | (refine drW_intro (by kernel_rfl) ?_)
    | (refine gw_intro (fun h => ?_) (fun h => ?_) <;> (try simp only [beq_true, beq_false, Bool.not_eq_eq_eq_not, Bool.not_true, Bool.not_false, Bool.not_not, decide_eq_true_eq, decide_eq_false_iff_not, ge_iff_le, gt_iff_lt] at h)))
        have hi2 : j < ns.length := HI
        refine hn _ ⟨j + 1, hi2, ?_, ?_, ?_, HO2⟩ ?_
        · simp only [*, put_slot, ↓reduceIte]
        · simp only [*, put_slot, dem_slot, ↓reduceIte, reduceCtorEq]
        · simp only [*, put_slot, dem_slot, ↓reduceIte, Nat.reduceEqDiff]
        · simp only [slotI, *, put_slot, ↓reduceIte, Int.toNat_natCast]
          omega
    · have g9 : ¬ (j : Int) < ns.length := by omega
      rw [any_end _ (by omega)] at hO'
      subst hO'
      clear hn hr hO h hl hR
      generalize n.at_.map At.d = LA at *
      generalize n.st.map D.str = LS at *
      by_cases c1 : n.k = 1
      · have b1 : (n.k == 1) = true := by simpa using c1
        have b2 : (n.k != 1) = false := by simpa using c1
        by_cases c2 : n.p < 0
        · have c3 : ¬ 0 ≤ n.p := by omega
          have d2 : decide (n.p < 0) = true := decide_eq_true c2
          clear c1
          repeat' (first
    | simp only [*, guardG, opG, inB, sval, stake, eats, eaters, get, St.taken, ↓reduceIte, Nat.reduceEqDiff, Nat.reduceLT, reduceCtorEq, List.filterMap_cons, List.filterMap_nil, Option.map_some, Option.bind_none, List.contains_cons, List.contains_nil, Nat.reduceBEq, dbin, dIntBin, List.append_nil, ptrArgs, callArgs, Option.isSome_none, AVB]
    | (refine drW_intro (by kernel_rfl) ?_)
    | (refine gw_intro (fun h => ?_) (fun h => ?_) <;> (try simp only [beq_true, beq_false, Bool.not_eq_eq_eq_not, Bool.not_true, Bool.not_false, Bool.not_not, decide_eq_true_eq, decide_eq_false_iff_not, ge_iff_le, gt_iff_lt] at h)))
          refine hx _ _ ?_
          repeat' (first
    | simp only [*, guardG, opG, inB, sval, stake, eats, eaters, get, cval, cval1, croom, St.taken, endQ, endR, endV, rvars, rvar, room1, ↓reduceIte, Nat.reduceEqDiff, Nat.reduceLT, reduceCtorEq, List.filterMap_cons, List.filterMap_nil, Option.bind_some, Option.map_some, List.getElem?_cons_zero, List.getElem?_cons_succ, List.contains_cons, List.contains_nil, List.map_nil, beq_self_eq_true, Nat.reduceBEq, dbin, dIntBin, pureB, leaf, leafN, List.append_nil, List.take_nil, List.length_nil, List.length_cons, dcells, Nat.reduceAdd, ge_iff_le, dStrBin, takes, vroom, stepTake, notAgg, dNilEq, isLit, AVB]
    | (refine drW_intro (by kernel_rfl) ?_)
    | (refine gw_intro (fun h => ?_) (fun h => ?_) <;> (try simp only [beq_true, beq_false, Bool.not_eq_eq_eq_not, Bool.not_true, Bool.not_false, Bool.not_not, decide_eq_true_eq, decide_eq_false_iff_not, ge_iff_le, gt_iff_lt] at h)))
        · have c3 : 0 ≤ n.p := by omega
          have d2 : decide (n.p < 0) = false := decide_eq_false c2
          clear c1
          repeat' (first
    | simp only [*, guardG, opG, inB, sval, stake, eats, eaters, get, St.taken, ↓reduceIte, Nat.reduceEqDiff, Nat.reduceLT, reduceCtorEq, List.filterMap_cons, List.filterMap_nil, Option.map_some, Option.bind_none, List.contains_cons, List.contains_nil, Nat.reduceBEq, dbin, dIntBin, List.append_nil, ptrArgs, callArgs, Option.isSome_none, AVB]
    | (refine drW_intro (by kernel_rfl) ?_)
    | (refine gw_intro (fun h => ?_) (fun h => ?_) <;> (try simp only [beq_true, beq_false, Bool.not_eq_eq_eq_not, Bool.not_true, Bool.not_false, Bool.not_not, decide_eq_true_eq, decide_eq_false_iff_not, ge_iff_le, gt_iff_lt] at h)))
          refine hx _ _ ?_
          repeat' (first
    | simp only [*, guardG, opG, inB, sval, stake, eats, eaters, get, cval, cval1, croom, St.taken, endQ, endR, endV, rvars, rvar, room1, ↓reduceIte, Nat.reduceEqDiff, Nat.reduceLT, reduceCtorEq, List.filterMap_cons, List.filterMap_nil, Option.bind_some, Option.map_some, List.getElem?_cons_zero, List.getElem?_cons_succ, List.contains_cons, List.contains_nil, List.map_nil, beq_self_eq_true, Nat.reduceBEq, dbin, dIntBin, pureB, leaf, leafN, List.append_nil, List.take_nil, List.length_nil, List.length_cons, dcells, Nat.reduceAdd, ge_iff_le, dStrBin, takes, vroom, stepTake, notAgg, dNilEq, isLit, AVB]
    | (refine drW_intro (by kernel_rfl) ?_)
    | (refine gw_intro (fun h => ?_) (fun h => ?_) <;> (try simp only [beq_true, beq_false, Bool.not_eq_eq_eq_not, Bool.not_true, Bool.not_false, Bool.not_not, decide_eq_true_eq, decide_eq_false_iff_not, ge_iff_le, gt_iff_lt] at h)))
      · have b1 : (n.k == 1) = false := by simpa using c1
        have b2 : (n.k != 1) = true := by simpa using c1
        clear c1
        repeat' (first
    | simp only [*, guardG, opG, inB, sval, stake, eats, eaters, get, St.taken, ↓reduceIte, Nat.reduceEqDiff, Nat.reduceLT, reduceCtorEq, List.filterMap_cons, List.filterMap_nil, Option.map_some, Option.bind_none, List.contains_cons, List.contains_nil, Nat.reduceBEq, dbin, dIntBin, List.append_nil, ptrArgs, callArgs, Option.isSome_none, AVB]
    | (refine drW_intro (by kernel_rfl) ?_)
    | (refine gw_intro (fun h => ?_) (fun h => ?_) <;> (try simp only [beq_true, beq_false, Bool.not_eq_eq_eq_not, Bool.not_true, Bool.not_false, Bool.not_not, decide_eq_true_eq, decide_eq_false_iff_not, ge_iff_le, gt_iff_lt] at h)))
        refine hx _ _ ?_
        repeat' (first
    | simp only [*, guardG, opG, inB, sval, stake, eats, eaters, get, cval, cval1, croom, St.taken, endQ, endR, endV, rvars, rvar, room1, ↓reduceIte, Nat.reduceEqDiff, Nat.reduceLT, reduceCtorEq, List.filterMap_cons, List.filterMap_nil, Option.bind_some, Option.map_some, List.getElem?_cons_zero, List.getElem?_cons_succ, List.contains_cons, List.contains_nil, List.map_nil, beq_self_eq_true, Nat.reduceBEq, dbin, dIntBin, pureB, leaf, leafN, List.append_nil, List.take_nil, List.length_nil, List.length_cons, dcells, Nat.reduceAdd, dStrBin, takes, vroom, stepTake, notAgg, dNilEq, isLit, AVB]
    | (refine drW_intro (by kernel_rfl) ?_)
    | (refine gw_intro (fun h => ?_) (fun h => ?_) <;> (try simp only [beq_true, beq_false, Bool.not_eq_eq_eq_not, Bool.not_true, Bool.not_false, Bool.not_not, decide_eq_true_eq, decide_eq_false_iff_not, ge_iff_le, gt_iff_lt] at h)))
def movF (o n : Int) : Int := if n < o then o - 1 else o
theorem moved_L (o n : Int) (h0 : 0 ≤ o) (h1 : o ≤ 1000000) : callL Tryd.prog (ext11b chk) 36 [.int .i64 o, .int .i64 n] [] = some (.int .i64 (movF o n), [.no], []) := by
  have hw : IntKind.i64.wrap (o - 1) = o - 1 := by rw [wrap64 _ (by omega) (by omega)]
  unfold movF
  clear h0 h1
  by_cases c : n < o
  · rw [if_pos c]
    refine callK (m := 11) (res := [4]) (rs := [.tmp 4]) rfl Tryd.func36 rfl rfl rfl rfl rfl ?_
    repeat' (first
    | simp only [*, guardG, opG, inB, sval, stake, eats, eaters, get, cval, cval1, croom, St.taken, endQ, endR, endV, rvars, rvar, room1, ↓reduceIte, Nat.reduceEqDiff, Nat.reduceLT, reduceCtorEq, List.filterMap_cons, List.filterMap_nil, Option.map_some, List.getD_cons_zero, List.getD_cons_succ, List.contains_cons, List.contains_nil, List.map_nil, beq_self_eq_true, Nat.reduceBEq, dbin, dIntBin, pureB, leaf, leafN, List.append_nil, List.take_nil, List.length_nil, List.getElem?_nil, gt_iff_lt, vroom, notAgg, ite_self, AVB]
    | (refine drW_intro (by kernel_rfl) ?_)
    | (refine gw_intro (fun h => ?_) (fun h => ?_) <;> (try simp only [beq_true, beq_false, Bool.not_eq_eq_eq_not, Bool.not_true, Bool.not_false, Bool.not_not, decide_eq_true_eq, decide_eq_false_iff_not, ge_iff_le, gt_iff_lt] at h)))
  · rw [if_neg c]
    refine callK (m := 11) (res := [4]) (rs := [.tmp 4]) rfl Tryd.func36 rfl rfl rfl rfl rfl ?_
    repeat' (first
    | simp only [*, guardG, opG, inB, sval, stake, eats, eaters, get, cval, cval1, croom, St.taken, endQ, endR, endV, rvars, rvar, room1, ↓reduceIte, Nat.reduceEqDiff, Nat.reduceLT, reduceCtorEq, List.filterMap_cons, List.filterMap_nil, Option.map_some, List.getD_cons_zero, List.getD_cons_succ, List.contains_cons, List.contains_nil, List.map_nil, beq_self_eq_true, Nat.reduceBEq, dbin, dIntBin, pureB, leaf, leafN, List.append_nil, List.take_nil, List.length_nil, List.getElem?_nil, gt_iff_lt, vroom, notAgg, ite_self, AVB]
    | (refine drW_intro (by kernel_rfl) ?_)
    | (refine gw_intro (fun h => ?_) (fun h => ?_) <;> (try simp only [beq_true, beq_false, Bool.not_eq_eq_eq_not, Bool.not_true, Bool.not_false, Bool.not_not, decide_eq_true_eq, decide_eq_false_iff_not, ge_iff_le, gt_iff_lt] at h)))
def lowNd (q : Int) (n : Nd) : Nd := n.at' (lowP q n.p)
theorem lowNd_d (q : Int) (n : Nd) : (lowNd q n).d = lowN q n.d := rfl
def withoutN (ns : List Nd) (i : Nat) : List Nd := (ns.eraseIdx i).map (lowNd i)
theorem withoutN_d (ns : List Nd) (i : Nat) : (withoutN ns i).map Nd.d = withoutF (ns.map Nd.d) i := by
  unfold withoutN withoutF
  rw [List.map_map]
  have h : ∀ (l : List Nd) (k : Nat), (l.map Nd.d).eraseIdx k = (l.eraseIdx k).map Nd.d := by
    intro l
    induction l with
    | nil => intro k; rfl
    | cons x r ih =>
      intro k
      cases k with
      | zero => rfl
      | succ k => simp [List.eraseIdx_cons_succ, ih]
  rw [h, List.map_map]
  rfl
def wtT (ns : List Nd) (q : Nat) : Nat → List Nd
  | 0 => []
  | i + 1 => if i = q then wtT ns q i else (match ns[i]? with | some n => wtT ns q i ++ [lowNd q n] | none => wtT ns q i)
end Go.Av
/- Chapter 17: the document's Without; the law's moved (gen_mi.py). -/
set_option linter.unusedSimpArgs false
set_option linter.unusedVariables false
set_option linter.unusedSectionVars false
set_option maxRecDepth 100000
namespace Go.Av
open Go.Proofs
variable [Ek] {chk : List D → Bool}
theorem lmoved_L (n : Nd) (q : Int) (h0 : 0 ≤ q) (h1 : n.p ≤ 1000000) : callL Tryd.prog (ext11b chk) 22 [n.d, .int .i64 q] [] = some ((lowNd q n).d, [.no], []) := by
  have e : (lowNd q n).d = .agg [.int .i64 (lowP q n.p), .int .i64 n.k, .str n.sp, .str n.nm, .list (n.at_.map At.d), .list (n.st.map .str), .str n.tx] := rfl
  rw [e, ndat]
  unfold lowP
  clear e
  by_cases c : n.p > q
  · rw [if_pos c]
    have hw : IntKind.i64.wrap (n.p - 1) = n.p - 1 := by rw [wrap64 _ (by omega) (by omega)]
    have c2 : q < n.p := c
    generalize n.at_.map At.d = LA at *
    generalize n.st.map D.str = LS at *
    clear h0 h1 c
    refine callK (m := 14) (res := []) (rs := [.cell 4 28]) rfl Tryd.func22 rfl rfl rfl rfl rfl ?_
    repeat' (first
    | simp only [*, guardG, opG, inB, sval, stake, eats, eaters, get, cval, cval1, St.taken, endQ, endR, endV, rvars, rvar, room1, ↓reduceIte, Nat.reduceEqDiff, Nat.reduceLT, Nat.reduceLeDiff, List.filterMap_cons, List.filterMap_nil, Option.map_some, List.getElem?_cons_zero, List.getD_cons_zero, List.getD_cons_succ, List.contains_nil, List.map_nil, dbin, dIntBin, pureB, leaf, leafN, List.all_cons, List.all_nil, List.nil_append, List.cons_append, List.append_nil, List.length_nil, List.length_cons, List.getElem?_nil, List.take_zero, List.drop_zero, List.drop_succ_cons, dcells, Nat.reduceAdd, stepBox, gt_iff_lt, takes, given, oroom, ite_self, List.drop_succ_cons, List.drop_nil, List.drop_zero, putR1, List.cons_append, List.nil_append, AVB]
    | (refine drW_intro (by kernel_rfl) ?_)
    | (refine gw_intro (fun h => ?_) (fun h => ?_) <;> (try simp only [beq_true, beq_false, Bool.not_eq_eq_eq_not, Bool.not_true, Bool.not_false, Bool.not_not, decide_eq_true_eq, decide_eq_false_iff_not, ge_iff_le, gt_iff_lt] at h)))
  · rw [if_neg c]
    have c2 : ¬ q < n.p := c
    generalize n.at_.map At.d = LA at *
    generalize n.st.map D.str = LS at *
    clear h0 h1 c
    refine callK (m := 14) (res := []) (rs := [.cell 4 28]) rfl Tryd.func22 rfl rfl rfl rfl rfl ?_
    repeat' (first
    | simp only [*, guardG, opG, inB, sval, stake, eats, eaters, get, St.taken, endQ, endR, endV, rvars, rvar, room1, ↓reduceIte, Nat.reduceEqDiff, Nat.reduceLT, Nat.reduceLeDiff, List.filterMap_cons, List.filterMap_nil, Option.map_some, List.getElem?_cons_zero, List.getD_cons_zero, List.getD_cons_succ, List.contains_nil, List.map_nil, dbin, dIntBin, pureB, leaf, leafN, List.all_cons, List.all_nil, List.nil_append, List.append_nil, List.length_nil, List.length_cons, List.getElem?_nil, List.take_zero, List.drop_succ_cons, dcells, Nat.reduceAdd, stepBox, gt_iff_lt, takes, given, oroom, ite_self, List.drop_succ_cons, List.drop_nil, List.nil_append, AVB]
    | (refine drW_intro (by kernel_rfl) ?_)
    | (refine gw_intro (fun h => ?_) (fun h => ?_) <;> (try simp only [beq_true, beq_false, Bool.not_eq_eq_eq_not, Bool.not_true, Bool.not_false, Bool.not_not, decide_eq_true_eq, decide_eq_false_iff_not, ge_iff_le, gt_iff_lt] at h)))
theorem erase_snoc {α : Type} (l : List α) (x : α) (q : Nat) : (l ++ [x]).eraseIdx q = if q < l.length then l.eraseIdx q ++ [x] else if q = l.length then l else l ++ [x] := by
  induction l generalizing q with
  | nil =>
    cases q with
    | zero => rfl
    | succ q => simp
  | cons y r ih =>
    cases q with
    | zero => simp
    | succ q =>
      rw [List.cons_append, List.eraseIdx_cons_succ, ih q]
      simp only [List.length_cons, Nat.add_lt_add_iff_right, Nat.add_right_cancel_iff]
      split
      · rfl
      · split <;> rfl
theorem erase_big {α : Type} (l : List α) (q : Nat) (h : l.length ≤ q) : l.eraseIdx q = l := List.eraseIdx_of_length_le h
theorem wtT_is {ns : List Nd} {q : Nat} : ∀ {i : Nat}, i ≤ ns.length → wtT ns q i = ((ns.take i).eraseIdx q).map (lowNd q)
  | 0, _ => by simp [wtT]
  | i + 1, h => by
    obtain ⟨n, hn⟩ := some_at (show i < ns.length by omega)
    have ih := wtT_is (ns := ns) (q := q) (i := i) (by omega)
    have hl : (ns.take i).length = i := by rw [List.length_take]; omega
    have ht : ns.take (i + 1) = ns.take i ++ [n] := by rw [List.take_add_one, hn]; rfl
    rw [wtT, hn, ht, erase_snoc, hl, ih]
    by_cases c : i = q
    · subst c
      rw [if_pos rfl, if_neg (by omega), if_pos rfl, erase_big _ _ (by omega)]
    · rw [if_neg c]
      by_cases c2 : q < i
      · rw [if_pos c2, List.map_append]
        rfl
      · rw [if_neg c2, if_neg (fun e => c e.symm), List.map_append, erase_big _ _ (by omega)]
        rfl
theorem wtT_end (ns : List Nd) (q : Nat) : wtT ns q ns.length = withoutN ns q := by
  rw [wtT_is (Nat.le_refl _), List.take_length]
  rfl
theorem wtT_len {ns : List Nd} {q : Nat} : ∀ i, (wtT ns q i).length ≤ i
  | 0 => Nat.le_refl _
  | i + 1 => by
    have := wtT_len (ns := ns) (q := q) i
    rw [wtT]
    split
    · omega
    · split
      · rw [List.length_append]
        simp
        omega
      · omega
set_option maxHeartbeats 16000000 in
theorem rwith_L (ns : List Nd) (q : Nat) (hl : ns.length ≤ 10000) (hp : ∀ n ∈ ns, n.p ≤ 1000000) : callL Tryd.prog (ext11b chk) 20 [.list (ns.map Nd.d), .int .i64 (q : Int)] [] = some (.list ((withoutN ns q).map Nd.d), [roomN (withoutN ns q)], []) := by
  have lN := lenM ns Nd.d
  rw [← wtT_end]
  have HL := Hd.mk hl
  have HP := Hd.mk hp
  clear hl hp
  refine callK (m := 35) (res := [4]) (rs := [.tmp 4]) rfl Tryd.func20 rfl rfl rfl rfl rfl ?_
  repeat' (first
    | simp only [*, guardG, opG, inB, sval, stake, eats, eaters, get, cval, cval1, croom, St.taken, ↓reduceIte, Nat.reduceLT, List.filterMap_cons, List.filterMap_nil, Option.map_some, List.contains_cons, List.contains_nil, List.map_nil, Nat.reduceBEq, List.append_nil, List.length_nil, vroom, bs22e, bt22, AVB]
    | (refine drW_intro (by kernel_rfl) ?_)
    | (refine gw_intro (fun h => ?_) (fun h => ?_) <;> (try simp only [beq_true, beq_false, Bool.not_eq_eq_eq_not, Bool.not_true, Bool.not_false, Bool.not_not, decide_eq_true_eq, decide_eq_false_iff_not, ge_iff_le, gt_iff_lt] at h)))
  refine loopH (fun st => ∃ i : Nat, i ≤ ns.length ∧ st.slot 6 = .int .i64 i ∧ st.slot 0 = .list (ns.map Nd.d) ∧ st.slot 1 = .int .i64 q ∧ st.slot 5 = .list ((wtT ns q i).map Nd.d) ∧ st.room 5 = [roomN (wtT ns q i)]) (fun st => ns.length - slotI st 6) ?_ ?_
  · refine ⟨0, Nat.zero_le _, ?_, ?_, ?_, ?_, ?_⟩
    all_goals simp only [*, put_slot, put_room, dem_slot, entry_slot, ↓reduceIte, Nat.reduceEqDiff, reduceCtorEq, List.getD_cons_zero, List.getD_cons_succ, and_true, List.cons.injEq]
    all_goals rfl
  · rintro st K ⟨i, hi, g6, g0, g1, g5, r5⟩ hn hx hr
    have hl : ns.length ≤ 10000 := HL
    by_cases h : i < ns.length
    · have g9 : (i : Int) < ns.length := by omega
      have hw := wrapS i (by omega)
      obtain ⟨n, hm⟩ := some_at h
      have hb := getD_map (f := Nd.d) hm
      rw [ndat] at hb
      have hpn : n.p ≤ 1000000 := (show ∀ n ∈ ns, n.p ≤ 1000000 from HP) n (List.mem_of_getElem? hm)
      have hre : wtT ns q (i + 1) = if i = q then wtT ns q i else wtT ns q i ++ [lowNd q n] := by rw [wtT, hm]
      have hAl := wtT_len (ns := ns) (q := q) i
      obtain ⟨A, hA⟩ : ∃ A, A = wtT ns q i := ⟨_, rfl⟩
      rw [← hA] at hre hAl g5 r5
      have hro := roomN_ok A
      have hsz := szN A
      have hl1 : (A.map Nd.d).length + 1 ≤ 1073741824 := by rw [List.length_map]; omega
      have hl2 : (A.map Nd.d).length ≤ 1073741823 := by rw [List.length_map]; omega
      obtain ⟨Q, hQ⟩ : ∃ Q, wtT ns q (i + 1) = Q := ⟨_, rfl⟩
      have HQ := Hd.mk hQ
      rw [hQ] at hre
      have HI := Hd.mk h
      clear hQ hA hr hx hi
      by_cases cq : i = q
      · subst cq
        rw [if_pos rfl] at hre
        subst hre
        have b1 : ((i : Int) != (i : Int)) = false := by simp
        by_cases cp : (i : Int) < n.p
        · have hwp : IntKind.i64.wrap (n.p - 1) = n.p - 1 := by rw [wrap64 _ (by omega) (by omega)]
          clear hm hpn hl h hAl hro hsz hl1 hl2
          generalize n.at_.map At.d = LA at *
          generalize n.st.map D.str = LS at *
          repeat' (first
    | simp only [*, guardG, opG, inB, sval, stake, eats, eaters, get, cval, cval1, St.taken, ↓reduceIte, Nat.reduceEqDiff, Nat.reduceLT, Nat.reduceLeDiff, reduceCtorEq, List.filterMap_cons, List.filterMap_nil, Option.map_some, Option.bind_none, List.getElem?_cons_zero, List.contains_cons, List.contains_nil, beq_self_eq_true, Nat.reduceBEq, dbin, dIntBin, pureB, leaf, leafN, List.all_cons, List.all_nil, List.nil_append, List.cons_append, List.append_nil, List.length_nil, List.length_cons, List.take_zero, List.drop_zero, List.drop_succ_cons, dcells, Nat.reduceAdd, stepBox, gt_iff_lt, takes, ptrArgs, callArgs, given, oroom, Option.isSome_none, List.drop_succ_cons, List.drop_nil, List.drop_zero, putR1, List.cons_append, List.nil_append, AVB]
    | (refine drW_intro (by kernel_rfl) ?_)
    | (refine gw_intro (fun h => ?_) (fun h => ?_) <;> (try simp only [beq_true, beq_false, Bool.not_eq_eq_eq_not, Bool.not_true, Bool.not_false, Bool.not_not, decide_eq_true_eq, decide_eq_false_iff_not, ge_iff_le, gt_iff_lt] at h)))
          have hi2 : i < ns.length := HI
          refine hn _ ⟨i + 1, hi2, ?_, ?_, ?_, ?_, ?_⟩ ?_
          · simp only [*, put_slot, ↓reduceIte]
          · simp only [*, put_slot, dem_slot, setBox_slot, ↓reduceIte, reduceCtorEq]
          · simp only [*, put_slot, dem_slot, setBox_slot, ↓reduceIte, Nat.reduceEqDiff]
          · rw [show wtT ns i (i + 1) = Q from HQ]
            simp only [*, put_slot, dem_slot, setBox_slot, ↓reduceIte, Nat.reduceEqDiff]
          · rw [show wtT ns i (i + 1) = Q from HQ]
            simp only [*, put_room, dem_room, setBox_room, ↓reduceIte, Nat.reduceEqDiff]
          · simp only [slotI, *, put_slot, ↓reduceIte, Int.toNat_natCast]
            omega
        · clear hm hpn hl h hAl hro hsz hl1 hl2
          generalize n.at_.map At.d = LA at *
          generalize n.st.map D.str = LS at *
          repeat' (first
    | simp only [*, guardG, opG, inB, sval, stake, eats, eaters, get, cval, cval1, St.taken, ↓reduceIte, Nat.reduceEqDiff, Nat.reduceLT, Nat.reduceLeDiff, reduceCtorEq, List.filterMap_cons, List.filterMap_nil, Option.map_some, Option.bind_none, List.getElem?_cons_zero, List.contains_cons, List.contains_nil, beq_self_eq_true, Nat.reduceBEq, dbin, dIntBin, pureB, leaf, leafN, List.all_cons, List.all_nil, List.nil_append, List.append_nil, List.length_nil, List.length_cons, List.take_zero, List.drop_succ_cons, dcells, Nat.reduceAdd, stepBox, gt_iff_lt, takes, ptrArgs, callArgs, given, oroom, Option.isSome_none, List.drop_succ_cons, List.drop_nil, List.nil_append, AVB]
    | (refine drW_intro (by kernel_rfl) ?_)
    | (refine gw_intro (fun h => ?_) (fun h => ?_) <;> (try simp only [beq_true, beq_false, Bool.not_eq_eq_eq_not, Bool.not_true, Bool.not_false, Bool.not_not, decide_eq_true_eq, decide_eq_false_iff_not, ge_iff_le, gt_iff_lt] at h)))
          have hi2 : i < ns.length := HI
          refine hn _ ⟨i + 1, hi2, ?_, ?_, ?_, ?_, ?_⟩ ?_
          · simp only [*, put_slot, ↓reduceIte]
          · simp only [*, put_slot, dem_slot, setBox_slot, ↓reduceIte, reduceCtorEq]
          · simp only [*, put_slot, dem_slot, setBox_slot, ↓reduceIte, Nat.reduceEqDiff]
          · rw [show wtT ns i (i + 1) = Q from HQ]
            simp only [*, put_slot, dem_slot, setBox_slot, ↓reduceIte, Nat.reduceEqDiff]
          · rw [show wtT ns i (i + 1) = Q from HQ]
            simp only [*, put_room, dem_room, setBox_room, ↓reduceIte, Nat.reduceEqDiff]
          · simp only [slotI, *, put_slot, ↓reduceIte, Int.toNat_natCast]
            omega
      · rw [if_neg cq] at hre
        have b1 : ((i : Int) != (q : Int)) = true := by simp; omega
        have hra : roomN Q = .own 28 := by rw [hre]; exact roomN_app A _
        have hq : Q.map Nd.d = A.map Nd.d ++ [.agg [.int .i64 (lowP q n.p), .int .i64 n.k, .str n.sp, .str n.nm, .list (n.at_.map At.d), .list (n.st.map .str), .str n.tx]] := by rw [hre]; exact apN A _
        have hs1 : ∀ z, szOk 7 [D.agg [.int .i64 z, .int .i64 n.k, .str n.sp, .str n.nm, .list (n.at_.map At.d), .list (n.st.map .str), .str n.tx]] = true := fun z => rfl
        unfold lowP at hq
        by_cases cp : (q : Int) < n.p
        · have hwp : IntKind.i64.wrap (n.p - 1) = n.p - 1 := by rw [wrap64 _ (by omega) (by omega)]
          rw [if_pos cp] at hq
          clear hm hpn hl h hAl hre cq
          generalize n.at_.map At.d = LA at *
          generalize n.st.map D.str = LS at *
          repeat' (first
    | simp only [*, guardG, opG, inB, sval, stake, eats, eaters, get, cval, cval1, St.taken, ↓reduceIte, Nat.reduceEqDiff, Nat.reduceLT, Nat.reduceLeDiff, reduceCtorEq, List.filterMap_cons, List.filterMap_nil, Option.map_some, Option.bind_none, List.getElem?_cons_zero, List.contains_cons, List.contains_nil, List.map_cons, List.map_nil, beq_self_eq_true, Nat.reduceBEq, dbin, dIntBin, pureB, leaf, leafN, List.all_cons, List.all_nil, List.nil_append, List.cons_append, List.append_nil, List.length_nil, List.length_cons, List.take_zero, List.drop_zero, List.drop_succ_cons, dcells, Nat.reduceAdd, stepBox, List.cons.injEq, List.getElem?_toArray, gt_iff_lt, takes, ptrArgs, callArgs, given, oroom, Option.isSome_none, ap22, bs22, List.drop_succ_cons, List.drop_nil, List.drop_zero, bt22, lenOk_small, putR1, List.cons_append, List.nil_append, AVB]
    | (refine drW_intro (by kernel_rfl) ?_)
    | (refine gw_intro (fun h => ?_) (fun h => ?_) <;> (try simp only [beq_true, beq_false, Bool.not_eq_eq_eq_not, Bool.not_true, Bool.not_false, Bool.not_not, decide_eq_true_eq, decide_eq_false_iff_not, ge_iff_le, gt_iff_lt] at h)))
          have hi2 : i < ns.length := HI
          refine hn _ ⟨i + 1, hi2, ?_, ?_, ?_, ?_, ?_⟩ ?_
          · simp only [*, put_slot, ↓reduceIte]
          · simp only [*, put_slot, dem_slot, setBox_slot, ↓reduceIte, reduceCtorEq]
          · simp only [*, put_slot, dem_slot, setBox_slot, ↓reduceIte, Nat.reduceEqDiff]
          · rw [show wtT ns q (i + 1) = Q from HQ]
            simp only [*, put_slot, dem_slot, ↓reduceIte, Nat.reduceEqDiff]
          · rw [show wtT ns q (i + 1) = Q from HQ]
            simp only [*, put_room, dem_room, ↓reduceIte, Nat.reduceEqDiff]
          · simp only [slotI, *, put_slot, ↓reduceIte, Int.toNat_natCast]
            omega
        · rw [if_neg cp] at hq
          clear hm hpn hl h hAl hre cq
          generalize n.at_.map At.d = LA at *
          generalize n.st.map D.str = LS at *
          repeat' (first
    | simp only [*, guardG, opG, inB, sval, stake, eats, eaters, get, cval, cval1, St.taken, ↓reduceIte, Nat.reduceEqDiff, Nat.reduceLT, Nat.reduceLeDiff, reduceCtorEq, List.filterMap_cons, List.filterMap_nil, Option.map_some, Option.bind_none, List.getElem?_cons_zero, List.contains_cons, List.contains_nil, List.map_cons, List.map_nil, beq_self_eq_true, Nat.reduceBEq, dbin, dIntBin, pureB, leaf, leafN, List.all_cons, List.all_nil, List.nil_append, List.append_nil, List.length_nil, List.length_cons, List.take_zero, List.drop_succ_cons, dcells, Nat.reduceAdd, stepBox, List.cons.injEq, List.getElem?_toArray, gt_iff_lt, takes, ptrArgs, callArgs, given, oroom, Option.isSome_none, ap22, bs22, List.drop_succ_cons, List.drop_nil, bt22, lenOk_small, List.nil_append, AVB]
    | (refine drW_intro (by kernel_rfl) ?_)
    | (refine gw_intro (fun h => ?_) (fun h => ?_) <;> (try simp only [beq_true, beq_false, Bool.not_eq_eq_eq_not, Bool.not_true, Bool.not_false, Bool.not_not, decide_eq_true_eq, decide_eq_false_iff_not, ge_iff_le, gt_iff_lt] at h)))
          have hi2 : i < ns.length := HI
          refine hn _ ⟨i + 1, hi2, ?_, ?_, ?_, ?_, ?_⟩ ?_
          · simp only [*, put_slot, ↓reduceIte]
          · simp only [*, put_slot, dem_slot, setBox_slot, ↓reduceIte, reduceCtorEq]
          · simp only [*, put_slot, dem_slot, setBox_slot, ↓reduceIte, Nat.reduceEqDiff]
          · rw [show wtT ns q (i + 1) = Q from HQ]
            simp only [*, put_slot, dem_slot, ↓reduceIte, Nat.reduceEqDiff]
          · rw [show wtT ns q (i + 1) = Q from HQ]
            simp only [*, put_room, dem_room, ↓reduceIte, Nat.reduceEqDiff]
          · simp only [slotI, *, put_slot, ↓reduceIte, Int.toNat_natCast]
            omega
    · obtain rfl : i = ns.length := by omega
      have g9 : ¬ (ns.length : Int) < ns.length := by omega
      clear hn hr hl h
      repeat' (first
    | simp only [*, guardG, opG, inB, sval, stake, eats, eaters, get, St.taken, ↓reduceIte, Nat.reduceEqDiff, Nat.reduceLT, reduceCtorEq, List.filterMap_cons, List.filterMap_nil, Option.map_some, Option.bind_none, List.contains_cons, List.contains_nil, Nat.reduceBEq, dbin, dIntBin, List.append_nil, ptrArgs, callArgs, Option.isSome_none, AVB]
    | (refine drW_intro (by kernel_rfl) ?_)
    | (refine gw_intro (fun h => ?_) (fun h => ?_) <;> (try simp only [beq_true, beq_false, Bool.not_eq_eq_eq_not, Bool.not_true, Bool.not_false, Bool.not_not, decide_eq_true_eq, decide_eq_false_iff_not, ge_iff_le, gt_iff_lt] at h)))
      refine hx _ _ ?_
      repeat' (first
    | simp only [*, guardG, opG, inB, sval, stake, eats, eaters, get, St.taken, endQ, endR, endV, rvars, rvar, room1, ↓reduceIte, Nat.reduceEqDiff, Nat.reduceLT, List.filterMap_cons, List.filterMap_nil, List.contains_cons, List.contains_nil, List.map_nil, beq_self_eq_true, Nat.reduceBEq, pureB, leaf, leafN, List.append_nil, List.take_nil, List.take_succ_cons, notAgg, AVB]
    | (refine drW_intro (by kernel_rfl) ?_)
    | (refine gw_intro (fun h => ?_) (fun h => ?_) <;> (try simp only [beq_true, beq_false, Bool.not_eq_eq_eq_not, Bool.not_true, Bool.not_false, Bool.not_not, decide_eq_true_eq, decide_eq_false_iff_not, ge_iff_le, gt_iff_lt] at h)))
end Go.Av
/- Chapter 17, plain: a right document without a node that may be dropped is right. -/
set_option linter.unusedVariables false
set_option linter.unusedSectionVars false
namespace Go.Av
open Go.Proofs
variable [Ek]
def rootN : List Nd → Int
  | [] => 0
  | n :: r => (if rootB n = true then 1 else 0) + rootN r
theorem rootN_app (a b : List Nd) : rootN (a ++ b) = rootN a + rootN b := by
  induction a with
  | nil => simp [rootN]
  | cons x r ih => rw [List.cons_append, rootN, rootN, ih]; omega
theorem chkG_iff : ∀ {r a : List Nd} {roots : Int}, chkG a r roots = (0, 0) ↔ (∀ (j : Nat) (n : Nd), r[j]? = some n → nodeF (a ++ r.take j) n = true) ∧ roots + rootN r = 1
  | [], a, roots => by
    rw [chkG]
    simp only [rootN, Int.add_zero]
    constructor
    · intro h
      split at h
      · rename_i hr
        exact ⟨fun j n hj => by simp at hj, hr⟩
      · simp at h
    · rintro ⟨_, h⟩
      rw [if_pos h]
  | n :: r, a, roots => by
    rw [chkG]
    have ih := chkG_iff (r := r) (a := a ++ [n]) (roots := if rootB n = true then roots + 1 else roots)
    constructor
    · intro h
      split at h
      · rename_i hn
        obtain ⟨h1, h2⟩ := ih.1 h
        refine ⟨fun j m hj => ?_, ?_⟩
        · cases j with
          | zero =>
            simp only [List.getElem?_cons_zero, Option.some.injEq] at hj
            subst hj
            simpa using hn
          | succ j =>
            have := h1 j m (by simpa using hj)
            simpa using this
        · rw [rootN]
          split at h2 <;> rename_i hb
          · rw [if_pos hb]; omega
          · rw [if_neg hb]; omega
      · simp at h
    · rintro ⟨h1, h2⟩
      have hn := h1 0 n rfl
      rw [List.take_zero, List.append_nil] at hn
      rw [if_pos hn]
      refine ih.2 ⟨fun j m hj => ?_, ?_⟩
      · have := h1 (j + 1) m (by simpa using hj)
        simpa using this
      · rw [rootN] at h2
        split at h2 <;> rename_i hb
        · rw [if_pos hb]; omega
        · rw [if_neg hb]; omega
theorem chkF_iff {ns : List Nd} : chkF ns = (0, 0) ↔ (∀ (j : Nat) (n : Nd), ns[j]? = some n → nodeF (ns.take j) n = true) ∧ rootN ns = 1 := by
  unfold chkF
  rw [chkG_iff]
  simp
theorem nodeF_iff {ahead : List Nd} {n : Nd} : nodeF ahead n = true ↔ (-1 ≤ n.p ∧ n.p < ahead.length ∧ (0 ≤ n.p → kindAt ahead n.p = 1)) ∧ bodyF n = true := by
  unfold nodeF parOk
  simp only [Bool.and_eq_true, Bool.not_eq_true', decide_eq_false_iff_not, Bool.and_eq_false_iff, bne_eq_false_iff_eq, Int.not_lt, Int.not_le]
  constructor
  · rintro ⟨⟨h1, h2, h3⟩, h4⟩
    exact ⟨⟨h1, h2, fun h => h3.resolve_left (by omega)⟩, h4⟩
  · rintro ⟨⟨h1, h2, h3⟩, h4⟩
    refine ⟨⟨h1, h2, ?_⟩, h4⟩
    by_cases h : 0 ≤ n.p
    · exact .inr (h3 h)
    · exact .inl (by omega)
theorem bodyF_low {n : Nd} {q : Int} (h0 : 0 ≤ q) (h : bodyF n = true) : bodyF (lowNd q n) = true := by
  have e : ∀ p : Int, ((n.at' p).k = n.k) := fun _ => rfl
  unfold bodyF at h ⊢
  have hk : (lowNd q n).k = n.k := rfl
  have hp : (lowNd q n).p = lowP q n.p := rfl
  have he : elmF (lowNd q n) = elmF n := rfl
  have ht : txtF (lowNd q n) = txtF n := rfl
  rw [hk, hp, he, ht]
  by_cases c : n.k = 1
  · rw [if_pos c] at h ⊢; exact h
  · rw [if_neg c] at h ⊢
    by_cases c2 : n.k = 2
    · rw [if_pos c2] at h ⊢
      by_cases c3 : n.p < 0
      · rw [if_pos c3] at h; cases h
      · rw [if_neg c3] at h
        rw [if_neg (by unfold lowP; split <;> omega)]
        exact h
    · rw [if_neg c2] at h ⊢; exact h
theorem rootB_low {n : Nd} {q : Int} (h0 : 0 ≤ q) : rootB (lowNd q n) = rootB n := by
  unfold rootB
  have hk : (lowNd q n).k = n.k := rfl
  have hp : (lowNd q n).p = lowP q n.p := rfl
  rw [hk, hp]
  congr 1
  unfold lowP
  split
  · rw [decide_eq_false (by omega), decide_eq_false (by omega)]
  · rfl
theorem rootN_map {l : List Nd} {q : Int} (h0 : 0 ≤ q) : rootN (l.map (lowNd q)) = rootN l := by
  induction l with
  | nil => rfl
  | cons n r ih => rw [List.map_cons, rootN, rootN, ih, rootB_low h0]
theorem rootN_erase : ∀ {l : List Nd} {i : Nat} {n : Nd}, l[i]? = some n → rootB n = false → rootN (l.eraseIdx i) = rootN l
  | [], i, n, h, _ => by simp at h
  | x :: r, 0, n, h, hb => by
    simp only [List.getElem?_cons_zero, Option.some.injEq] at h
    subst h
    rw [List.eraseIdx_cons_zero, rootN, if_neg (by rw [hb]; decide)]
    omega
  | x :: r, i + 1, n, h, hb => by
    rw [List.eraseIdx_cons_succ, rootN, rootN, rootN_erase (by simpa using h) hb]
theorem without_at {ns : List Nd} {i j : Nat} : (withoutN ns i)[j]? = (if j < i then ns[j]? else ns[j + 1]?).map (lowNd i) := by
  unfold withoutN
  rw [List.getElem?_map, List.getElem?_eraseIdx]
theorem kindAt_of {l : List Nd} {p : Int} {n : Nd} (h : l[p.toNat]? = some n) : kindAt l p = n.k := by
  unfold kindAt
  rw [h]
theorem kind_some {l : List Nd} {p : Int} (h : kindAt l p = 1) : ∃ n, l[p.toNat]? = some n ∧ n.k = 1 := by
  unfold kindAt at h
  split at h
  · rename_i n hn
    exact ⟨n, hn, h⟩
  · cases h
theorem without_right {ns : List Nd} {i : Nat} (h : chkF ns = (0, 0)) (hi : i < ns.length) (hm : mayF ns i = true) : chkF (withoutN ns i) = (0, 0) := by
  obtain ⟨h1, h2⟩ := chkF_iff.1 h
  obtain ⟨n0, hn0⟩ := some_at hi
  unfold mayF at hm
  simp only [Bool.and_eq_true, Bool.not_eq_true', List.any_eq_false] at hm
  obtain ⟨hpar, hroot⟩ := hm
  have hno : ∀ (j : Nat) (n : Nd), ns[j]? = some n → n.p ≠ (i : Int) := fun j n hj e => hpar n (List.mem_of_getElem? hj) (by unfold parQ; simpa using e)
  have hr0 : rootB n0 = false := by
    have e1 : kAt ns i = n0.k := by unfold kAt; rw [hn0]
    have e2 : pAt ns i = n0.p := by unfold pAt; rw [hn0]
    rw [e1, e2] at hroot
    exact hroot
  have h0 : (0 : Int) ≤ (i : Int) := Int.natCast_nonneg i
  refine chkF_iff.2 ⟨fun j x hj => ?_, ?_⟩
  · have hlen : (withoutN ns i).length = ns.length - 1 := by
      unfold withoutN
      rw [List.length_map, List.length_eraseIdx, if_pos hi]
    have hjl := (List.getElem?_eq_some_iff.1 hj).1
    have htl : ((withoutN ns i).take j).length = j := by rw [List.length_take]; omega
    rw [without_at] at hj
    obtain ⟨n, hn, rfl⟩ := Option.map_eq_some_iff.1 hj
    have key : ∀ (k : Nat) (hk : ns[k]? = some n), (k = j ∧ j < i) ∨ (k = j + 1 ∧ ¬ j < i) → nodeF ((withoutN ns i).take j) (lowNd i n) = true := by
      intro k hk hkj
      obtain ⟨⟨q1, q2, q3⟩, q4⟩ := nodeF_iff.1 (h1 k n hk)
      have hkl := (List.getElem?_eq_some_iff.1 hk).1
      have hk2 : (ns.take k).length = k := by rw [List.length_take]; omega
      rw [hk2] at q2
      have hne := hno k n hk
      have hp : (lowNd i n).p = lowP i n.p := rfl
      refine nodeF_iff.2 ⟨?_, bodyF_low h0 q4⟩
      rw [htl, hp]
      unfold lowP
      refine ⟨by split <;> omega, by split <;> omega, fun hge => ?_⟩
      have hnp : 0 ≤ n.p := by split at hge <;> omega
      obtain ⟨m, hm1, hm2⟩ := kind_some (q3 hnp)
      have hlt : n.p.toNat < k := by omega
      rw [List.getElem?_take, if_pos hlt] at hm1
      have : ((withoutN ns i).take j)[(if n.p > (i : Int) then n.p - 1 else n.p).toNat]? = some (lowNd i m) := by
        split
        · rename_i hgt
          have e1 : (n.p - 1).toNat < j := by omega
          rw [List.getElem?_take, if_pos e1, without_at, if_neg (by omega), show (n.p - 1).toNat + 1 = n.p.toNat by omega, hm1]
          rfl
        · rename_i hgt
          have e1 : n.p.toNat < j := by omega
          rw [List.getElem?_take, if_pos e1, without_at, if_pos (by omega), hm1]
          rfl
      rw [kindAt_of this]
      exact hm2
    by_cases c : j < i
    · rw [if_pos c] at hn
      exact key j hn (.inl ⟨rfl, c⟩)
    · rw [if_neg c] at hn
      exact key (j + 1) hn (.inr ⟨rfl, c⟩)
  · unfold withoutN
    rw [rootN_map h0, rootN_erase hn0 hr0, h2]
theorem without_small {ns : List Nd} {i : Nat} (h : SmallD ns) : SmallD (withoutN ns i) := by
  refine ⟨?_, fun x hx => ?_⟩
  · unfold withoutN
    rw [List.length_map, List.length_eraseIdx]
    have := h.1
    split <;> omega
  · unfold withoutN at hx
    obtain ⟨n, hn, rfl⟩ := List.mem_map.1 hx
    exact h.2 n (List.mem_of_mem_eraseIdx hn)
theorem par_bound {ns : List Nd} (h : chkF ns = (0, 0)) (hl : ns.length ≤ 10000) : ∀ n ∈ ns, -1 ≤ n.p ∧ n.p ≤ 10000 := by
  intro n hn
  obtain ⟨j, hj⟩ := List.getElem?_of_mem hn
  obtain ⟨⟨q1, q2, _⟩, _⟩ := nodeF_iff.1 ((chkF_iff.1 h).1 j n hj)
  have : (ns.take j).length ≤ ns.length := by rw [List.length_take]; omega
  omega
theorem noPtr_at (l : List At) : ∀ x ∈ flat (l.map At.d), noPtr x = true := by
  intro x hx
  unfold flat at hx
  obtain ⟨d, hd, hx⟩ := List.mem_flatMap.1 hx
  obtain ⟨a, _, rfl⟩ := List.mem_map.1 hd
  have hx : x ∈ [D.str a.sp, .str a.nm, .str a.vl] := hx
  simp only [List.mem_cons, List.not_mem_nil, or_false] at hx
  rcases hx with rfl | rfl | rfl <;> rfl
theorem noPtr_st (l : List (List UInt8)) : ∀ x ∈ flat (l.map D.str), noPtr x = true := by
  intro x hx
  unfold flat at hx
  obtain ⟨d, hd, hx⟩ := List.mem_flatMap.1 hx
  obtain ⟨a, _, rfl⟩ := List.mem_map.1 hd
  have hx : x ∈ [D.str a] := hx
  simp only [List.mem_cons, List.not_mem_nil, or_false] at hx
  subst hx
  rfl
theorem docOk_d {ns : List Nd} (h : SmallD ns) : docOk (ns.map Nd.d) = true := by
  unfold docOk
  rw [Bool.and_eq_true]
  refine ⟨nodes_ok h.small, ?_⟩
  rw [List.all_eq_true]
  intro d hd
  obtain ⟨n, _, rfl⟩ := List.mem_map.1 hd
  show ((flat (n.at_.map At.d)).all noPtr && (flat (n.st.map D.str)).all noPtr) = true
  rw [Bool.and_eq_true, List.all_eq_true, List.all_eq_true]
  exact ⟨noPtr_at _, noPtr_st _⟩
variable {chk : List D → Bool}
theorem ext_w {f : FuncId} {args : List D} {pbs : List Bx} {r : D × List Room × List Bx} (h0 : extF f args pbs = none) (h1 : extKc chk f args pbs = none) (h2 : extCl f args pbs = none) (h : extW f args pbs = some r) : ext11b chk f args pbs = some r := by
  unfold ext11b ext17 ext17a orExt
  rw [h0, h1, h2, h]
theorem without_L (ns : List Nd) (i : Nat) (hS : SmallD ns) (hp : ∀ n ∈ ns, -1 ≤ n.p ∧ n.p ≤ 10000) (hi : i < ns.length) : callL Tryd.prog (ext11b chk) 35 [.list (ns.map Nd.d), .int .i64 (i : Int)] [] = some (.list ((withoutN ns i).map Nd.d), [], []) := by
  refine callL_ext (ext_w rfl rfl rfl ?_)
  have hall : (ns.map Nd.d).all parSm = true := by
    rw [List.all_eq_true]
    intro d hd
    obtain ⟨n, hn, rfl⟩ := List.mem_map.1 hd
    have := hp n hn
    show (decide (-1000000 ≤ n.p) && decide (n.p ≤ 1000000)) = true
    rw [Bool.and_eq_true, decide_eq_true_eq, decide_eq_true_eq]
    omega
  show (if docOk (ns.map Nd.d) = true ∧ (ns.map Nd.d).all parSm = true ∧ 0 ≤ (i : Int) ∧ (i : Int).toNat < (ns.map Nd.d).length then some (D.list (withoutF (ns.map Nd.d) (i : Int).toNat), ([] : List Room), ([] : List Bx)) else none) = _
  rw [if_pos ⟨docOk_d hS, hall, by omega, by rw [Int.toNat_natCast, List.length_map]; exact hi⟩, Int.toNat_natCast, ← withoutN_d]
end Go.Av
/- Chapter 17: plant.Drop; PlantDrops's function hands back true. -/
set_option linter.unusedSimpArgs false
set_option linter.unusedVariables false
set_option linter.unusedSectionVars false
set_option maxRecDepth 100000
namespace Go.Av
open Go.Proofs
variable [Ek] {chk : List D → Bool}
theorem szNs : sizeT Tryd.prog 24 = some 1 := by kernel_rfl
def inN (ns : List Nd) (k : Int) : Bool := decide (0 ≤ k) && decide (k < ns.length)
theorem in_L (ns : List Nd) (k : Int) : callL Tryd.prog (ext11b chk) 32 [.int .i64 k, .fix (.agg [.list (ns.map Nd.d)]) 0] [] = some (.bool (inN ns k), [.no], []) := by
  have lN := lenM ns Nd.d
  unfold inN
  by_cases c : 0 ≤ k
  · rw [decide_eq_true c, Bool.true_and]
    by_cases c2 : k < ns.length
    · rw [decide_eq_true c2]
      refine callK (m := 12) (res := [3]) (rs := [.tmp 3]) rfl Tryd.func32 rfl rfl rfl rfl rfl ?_
      repeat' (first
    | simp only [*, guardG, opG, inB, sval, stake, eats, eaters, get, cval, cval1, croom, St.taken, endQ, endR, endV, rvars, rvar, room1, ↓reduceIte, Nat.reduceEqDiff, Nat.reduceLT, reduceCtorEq, List.filterMap_cons, List.filterMap_nil, Option.bind_some, Option.map_some, Option.bind_none, List.getElem?_cons_zero, List.getElem?_cons_succ, List.getD_cons_zero, List.getD_cons_succ, List.contains_cons, List.contains_nil, List.map_nil, beq_self_eq_true, Nat.reduceBEq, dbin, dIntBin, okR, callG, pureB, leaf, leafN, List.append_nil, List.take_nil, List.length_nil, List.getElem?_nil, dcells, ge_iff_le, dStrBin, takes, ptrArgs, callArgs, vroom, Option.isSome_none, stepTake, stepPtr, notAgg, ite_self, dNilEq, isLit, AVB]
    | (refine drW_intro (by kernel_rfl) ?_)
    | (refine gw_intro (fun h => ?_) (fun h => ?_) <;> (try simp only [beq_true, beq_false, Bool.not_eq_eq_eq_not, Bool.not_true, Bool.not_false, Bool.not_not, decide_eq_true_eq, decide_eq_false_iff_not, ge_iff_le, gt_iff_lt] at h)))
    · rw [decide_eq_false c2]
      refine callK (m := 12) (res := [3]) (rs := [.tmp 3]) rfl Tryd.func32 rfl rfl rfl rfl rfl ?_
      repeat' (first
    | simp only [*, guardG, opG, inB, sval, stake, eats, eaters, get, cval, cval1, croom, St.taken, endQ, endR, endV, rvars, rvar, room1, ↓reduceIte, Nat.reduceEqDiff, Nat.reduceLT, reduceCtorEq, List.filterMap_cons, List.filterMap_nil, Option.bind_some, Option.map_some, Option.bind_none, List.getElem?_cons_zero, List.getElem?_cons_succ, List.getD_cons_zero, List.getD_cons_succ, List.contains_cons, List.contains_nil, List.map_nil, beq_self_eq_true, Nat.reduceBEq, dbin, dIntBin, okR, callG, pureB, leaf, leafN, List.append_nil, List.take_nil, List.length_nil, List.getElem?_nil, dcells, ge_iff_le, dStrBin, takes, ptrArgs, callArgs, vroom, Option.isSome_none, stepTake, stepPtr, notAgg, ite_self, dNilEq, isLit, AVB]
    | (refine drW_intro (by kernel_rfl) ?_)
    | (refine gw_intro (fun h => ?_) (fun h => ?_) <;> (try simp only [beq_true, beq_false, Bool.not_eq_eq_eq_not, Bool.not_true, Bool.not_false, Bool.not_not, decide_eq_true_eq, decide_eq_false_iff_not, ge_iff_le, gt_iff_lt] at h)))
  · rw [decide_eq_false c, Bool.false_and]
    refine callK (m := 12) (res := [3]) (rs := [.tmp 3]) rfl Tryd.func32 rfl rfl rfl rfl rfl ?_
    repeat' (first
    | simp only [*, guardG, opG, inB, sval, stake, eats, eaters, get, cval, cval1, croom, St.taken, endQ, endR, endV, rvars, rvar, room1, ↓reduceIte, Nat.reduceEqDiff, Nat.reduceLT, reduceCtorEq, List.filterMap_cons, List.filterMap_nil, Option.bind_some, Option.map_some, Option.bind_none, List.getElem?_cons_zero, List.getElem?_cons_succ, List.getD_cons_zero, List.contains_cons, List.contains_nil, List.map_nil, beq_self_eq_true, Nat.reduceBEq, dbin, dIntBin, okR, callG, pureB, leaf, leafN, List.append_nil, List.take_nil, List.length_nil, List.getElem?_nil, dcells, ge_iff_le, dStrBin, takes, ptrArgs, callArgs, vroom, Option.isSome_none, stepTake, stepPtr, notAgg, ite_self, dNilEq, isLit, AVB]
    | (refine drW_intro (by kernel_rfl) ?_)
    | (refine gw_intro (fun h => ?_) (fun h => ?_) <;> (try simp only [beq_true, beq_false, Bool.not_eq_eq_eq_not, Bool.not_true, Bool.not_false, Bool.not_not, decide_eq_true_eq, decide_eq_false_iff_not, ge_iff_le, gt_iff_lt] at h)))
theorem in_of {ns : List Nd} {k : Int} (h : inN ns k = true) : ∃ i : Nat, k = (i : Int) ∧ i < ns.length := by
  unfold inN at h
  simp only [Bool.and_eq_true, decide_eq_true_eq] at h
  exact ⟨k.toNat, by omega, by omega⟩
theorem in_nat {ns : List Nd} {i : Nat} (h : i < ns.length) : inN ns (i : Int) = true := by
  unfold inN
  simp only [Bool.and_eq_true, decide_eq_true_eq]
  omega
theorem chk_z {ns : List Nd} (h : chkF ns = (0, 0)) : errD (chkF ns) = .con .nilIface := by rw [h]; rfl
theorem chk_e {ns : List Nd} (h : (chkF ns).1 ≠ 0) : errD (chkF ns) = .iface 66 (.fix (.agg [.int .i64 (chkF ns).1, .int .i64 (chkF ns).2, .con .nilIface]) 0) := by unfold errD; rw [if_neg h]; rfl
theorem drop0_L (ns : List Nd) (n o : Int) (hS : SmallD ns) (h : (chkF ns).1 ≠ 0) : callL Tryd.prog (ext11b chk) 14 [.list (ns.map Nd.d), .int .i64 n, .int .i64 o] [] = some (.tuple [.list [], .int .i64 0, .iface 66 (.fix (.agg [.int .i64 10, .int .i64 0, .con .nilIface]) 0)], [.full, .no, .no], []) := by
  have h1 := check_L (chk := chk) ns hS
  rw [chk_e h] at h1
  have h2 := fail_L (chk := chk) 10 0
  unfold faultD at h2
  generalize (chkF ns).1 = k1 at *
  generalize (chkF ns).2 = k2 at *
  generalize ns.map Nd.d = NS at *
  clear h hS
  refine callK (m := 42) (res := [6, 7, 8]) (rs := [.tmp 6, .tmp 7, .tmp 8]) rfl Tryd.func14 rfl rfl rfl rfl rfl ?_
  repeat' (first
    | simp only [*, upd, szNs, guardG, opG, inB, sval, stake, eats, eaters, get, cval, cval1, croom, St.taken, endQ, endR, endV, rvars, rvar, room1, ↓reduceIte, Nat.reduceEqDiff, Nat.reduceLT, List.filterMap_cons, List.filterMap_nil, Option.bind_some, Option.map_some, List.getElem?_cons_zero, List.getD_cons_zero, List.contains_cons, List.contains_nil, List.map_cons, List.map_nil, beq_self_eq_true, Nat.reduceBEq, dbin, okR, callG, frzD, pureB, leaf, leafN, List.all_cons, List.all_nil, List.nil_append, List.append_nil, List.take_nil, List.length_nil, List.length_cons, List.getElem?_nil, List.take_succ_cons, dcells, Nat.reduceAdd, stepBox, St.freeze, takes, ptrArgs, callArgs, given, oroom, vroom, Option.isSome_none, notAgg, ite_self, shB34, dNilEq, List.nil_append, AVB]
    | (refine drW_intro (by kernel_rfl) ?_)
    | (refine gw_intro (fun h => ?_) (fun h => ?_) <;> (try simp only [beq_true, beq_false, Bool.not_eq_eq_eq_not, Bool.not_true, Bool.not_false, Bool.not_not, decide_eq_true_eq, decide_eq_false_iff_not, ge_iff_le, gt_iff_lt] at h)))
theorem drop1_L (ns : List Nd) (n o : Int) (hS : SmallD ns) (h : chkF ns = (0, 0)) (hr : inN ns n = false ∨ inN ns o = false ∨ n = o) : callL Tryd.prog (ext11b chk) 14 [.list (ns.map Nd.d), .int .i64 n, .int .i64 o] [] = some (.tuple [.list [], .int .i64 0, .iface 66 (.fix (.agg [.int .i64 2, .int .i64 0, .con .nilIface]) 0)], [.full, .no, .no], []) := by
  have h1 := check_L (chk := chk) ns hS
  rw [chk_z h] at h1
  have h2 := fail_L (chk := chk) 2 0
  unfold faultD at h2
  have h3 := in_L (chk := chk) ns n
  have h4 := in_L (chk := chk) ns o
  clear h hS
  cases c1 : inN ns n with
  | false =>
    rw [c1] at h3
    clear h4 hr c1
    generalize ns.map Nd.d = NS at *
    refine callK (m := 42) (res := [6, 7, 8]) (rs := [.tmp 6, .tmp 7, .tmp 8]) rfl Tryd.func14 rfl rfl rfl rfl rfl ?_
    repeat' (first
    | simp only [*, upd, szNs, guardG, opG, inB, sval, stake, eats, eaters, get, cval, cval1, croom, St.taken, endQ, endR, endV, rvars, rvar, room1, ↓reduceIte, Nat.reduceEqDiff, Nat.reduceLT, List.filterMap_cons, List.filterMap_nil, Option.bind_some, Option.map_some, List.getElem?_cons_zero, List.getD_cons_zero, List.getD_cons_succ, List.contains_cons, List.contains_nil, List.map_cons, List.map_nil, beq_self_eq_true, Nat.reduceBEq, dbin, okR, callG, frzD, pureB, leaf, leafN, List.all_cons, List.all_nil, List.nil_append, List.cons_append, List.append_nil, List.take_nil, List.length_nil, List.length_cons, dun, List.getElem?_nil, List.take_succ_cons, dcells, Nat.reduceAdd, stepBox, St.freeze, takes, ptrArgs, callArgs, given, oroom, vroom, Option.isSome_none, notAgg, ite_self, shA34, dNilEq, isLit, List.cons_append, List.nil_append, AVB]
    | (refine drW_intro (by kernel_rfl) ?_)
    | (refine gw_intro (fun h => ?_) (fun h => ?_) <;> (try simp only [beq_true, beq_false, Bool.not_eq_eq_eq_not, Bool.not_true, Bool.not_false, Bool.not_not, decide_eq_true_eq, decide_eq_false_iff_not, ge_iff_le, gt_iff_lt] at h)))
  | true =>
    rw [c1] at h3
    cases c2 : inN ns o with
    | false =>
      rw [c2] at h4
      clear hr c1 c2
      generalize ns.map Nd.d = NS at *
      refine callK (m := 42) (res := [6, 7, 8]) (rs := [.tmp 6, .tmp 7, .tmp 8]) rfl Tryd.func14 rfl rfl rfl rfl rfl ?_
      repeat' (first
    | simp only [*, upd, szNs, guardG, opG, inB, sval, stake, eats, eaters, get, cval, cval1, croom, St.taken, endQ, endR, endV, rvars, rvar, room1, ↓reduceIte, Nat.reduceEqDiff, Nat.reduceLT, List.filterMap_cons, List.filterMap_nil, Option.bind_some, Option.map_some, List.getElem?_cons_zero, List.getD_cons_zero, List.getD_cons_succ, List.contains_cons, List.contains_nil, List.map_cons, List.map_nil, beq_self_eq_true, Nat.reduceBEq, dbin, okR, callG, frzD, pureB, leaf, leafN, List.all_cons, List.all_nil, List.nil_append, List.cons_append, List.append_nil, List.take_nil, List.length_nil, List.length_cons, dun, List.getElem?_nil, List.take_succ_cons, dcells, Nat.reduceAdd, stepBox, St.freeze, takes, ptrArgs, callArgs, given, oroom, vroom, Option.isSome_none, notAgg, ite_self, shA34, dNilEq, isLit, List.cons_append, List.nil_append, AVB]
    | (refine drW_intro (by kernel_rfl) ?_)
    | (refine gw_intro (fun h => ?_) (fun h => ?_) <;> (try simp only [beq_true, beq_false, Bool.not_eq_eq_eq_not, Bool.not_true, Bool.not_false, Bool.not_not, decide_eq_true_eq, decide_eq_false_iff_not, ge_iff_le, gt_iff_lt] at h)))
    | true =>
      rw [c2] at h4
      have hno : n = o := by
        rcases hr with hr | hr | hr
        · rw [c1] at hr; cases hr
        · rw [c2] at hr; cases hr
        · exact hr
      subst hno
      have b1 : (n == n) = true := by simp
      clear hr c1 c2 h4
      generalize ns.map Nd.d = NS at *
      refine callK (m := 42) (res := [6, 7, 8]) (rs := [.tmp 6, .tmp 7, .tmp 8]) rfl Tryd.func14 rfl rfl rfl rfl rfl ?_
      repeat' (first
    | simp only [*, upd, szNs, guardG, opG, inB, sval, stake, eats, eaters, get, cval, cval1, croom, St.taken, endQ, endR, endV, rvars, rvar, room1, ↓reduceIte, Nat.reduceEqDiff, Nat.reduceLT, List.filterMap_cons, List.filterMap_nil, Option.bind_some, Option.map_some, List.getElem?_cons_zero, List.getD_cons_zero, List.getD_cons_succ, List.contains_cons, List.contains_nil, List.map_cons, List.map_nil, beq_self_eq_true, Nat.reduceBEq, dbin, dIntBin, okR, callG, frzD, pureB, leaf, leafN, List.all_cons, List.all_nil, List.nil_append, List.cons_append, List.append_nil, List.take_nil, List.length_nil, List.length_cons, dun, List.getElem?_nil, List.take_succ_cons, dcells, Nat.reduceAdd, stepBox, St.freeze, takes, ptrArgs, callArgs, given, oroom, vroom, Option.isSome_none, notAgg, ite_self, shA34, dNilEq, isLit, List.cons_append, List.nil_append, AVB]
    | (refine drW_intro (by kernel_rfl) ?_)
    | (refine gw_intro (fun h => ?_) (fun h => ?_) <;> (try simp only [beq_true, beq_false, Bool.not_eq_eq_eq_not, Bool.not_true, Bool.not_false, Bool.not_not, decide_eq_true_eq, decide_eq_false_iff_not, ge_iff_le, gt_iff_lt] at h)))
theorem drop2_L (ns : List Nd) (i j : Nat) (hS : SmallD ns) (h : chkF ns = (0, 0)) (hi : i < ns.length) (hj : j < ns.length) (hij : i ≠ j) (hm : mayF ns i = false) : callL Tryd.prog (ext11b chk) 14 [.list (ns.map Nd.d), .int .i64 (i : Int), .int .i64 (j : Int)] [] = some (.tuple [.list [], .int .i64 0, .iface 66 (.fix (.agg [.int .i64 1, .int .i64 (i : Int), .con .nilIface]) 0)], [.full, .no, .no], []) := by
  have h1 := check_L (chk := chk) ns hS
  rw [chk_z h] at h1
  have h2 := fail_L (chk := chk) 1 (i : Int)
  unfold faultD at h2
  have h3 := in_L (chk := chk) ns (i : Int)
  have h4 := in_L (chk := chk) ns (j : Int)
  rw [in_nat hi] at h3
  rw [in_nat hj] at h4
  have b1 : ((i : Int) == (j : Int)) = false := by simp; omega
  have h5 := drop_L (chk := chk) ns i hi hS.1
  rw [hm] at h5
  clear h hS hi hj hij hm
  generalize ns.map Nd.d = NS at *
  refine callK (m := 42) (res := [6, 7, 8]) (rs := [.tmp 6, .tmp 7, .tmp 8]) rfl Tryd.func14 rfl rfl rfl rfl rfl ?_
  repeat' (first
    | simp only [*, upd, szNs, guardG, opG, inB, sval, stake, eats, eaters, get, cval, cval1, croom, St.taken, endQ, endR, endV, rvars, rvar, room1, ↓reduceIte, Nat.reduceEqDiff, Nat.reduceLT, List.filterMap_cons, List.filterMap_nil, Option.bind_some, Option.map_some, List.getElem?_cons_zero, List.getD_cons_zero, List.getD_cons_succ, List.contains_cons, List.contains_nil, List.map_cons, List.map_nil, beq_self_eq_true, Nat.reduceBEq, dbin, dIntBin, okR, callG, frzD, pureB, leaf, leafN, List.all_cons, List.all_nil, List.nil_append, List.cons_append, List.append_nil, List.take_nil, List.length_nil, List.length_cons, dun, List.getElem?_nil, List.take_succ_cons, dcells, Nat.reduceAdd, stepBox, St.freeze, takes, ptrArgs, callArgs, given, oroom, vroom, Option.isSome_none, notAgg, ite_self, shA34, dNilEq, isLit, List.cons_append, List.nil_append, AVB]
    | (refine drW_intro (by kernel_rfl) ?_)
    | (refine gw_intro (fun h => ?_) (fun h => ?_) <;> (try simp only [beq_true, beq_false, Bool.not_eq_eq_eq_not, Bool.not_true, Bool.not_false, Bool.not_not, decide_eq_true_eq, decide_eq_false_iff_not, ge_iff_le, gt_iff_lt] at h)))
theorem drop3_L (ns : List Nd) (i j : Nat) (hS : SmallD ns) (h : chkF ns = (0, 0)) (hi : i < ns.length) (hj : j < ns.length) (hij : i ≠ j) (hm : mayF ns i = true) : callL Tryd.prog (ext11b chk) 14 [.list (ns.map Nd.d), .int .i64 (i : Int), .int .i64 (j : Int)] [] = some (.tuple [.list ((withoutN ns i).map Nd.d), .int .i64 (movF j i), .con .nilIface], [.no, .no, .no], []) := by
  have h1 := check_L (chk := chk) ns hS
  rw [chk_z h] at h1
  have h3 := in_L (chk := chk) ns (i : Int)
  have h4 := in_L (chk := chk) ns (j : Int)
  rw [in_nat hi] at h3
  rw [in_nat hj] at h4
  have b1 : ((i : Int) == (j : Int)) = false := by simp; omega
  have h5 := drop_L (chk := chk) ns i hi hS.1
  rw [hm] at h5
  have h6 := without_L (chk := chk) ns i hS (par_bound h hS.1) hi
  have hl := hS.1
  have h7 := moved_L (chk := chk) (j : Int) (i : Int) (by omega) (by omega)
  clear h hS hi hj hij hm hl
  generalize (withoutN ns i).map Nd.d = WN at *
  generalize ns.map Nd.d = NS at *
  generalize movF (j : Int) (i : Int) = MV at *
  refine callK (m := 42) (res := [6, 7, 8]) (rs := [.tmp 6, .tmp 7, .tmp 8]) rfl Tryd.func14 rfl rfl rfl rfl rfl ?_
  repeat' (first
    | simp only [*, upd, szNs, guardG, opG, inB, sval, stake, eats, eaters, get, cval, cval1, croom, St.taken, endQ, endR, endV, rvars, rvar, room1, ↓reduceIte, Nat.reduceEqDiff, Nat.reduceLT, List.filterMap_cons, List.filterMap_nil, Option.bind_some, Option.map_some, List.getElem?_cons_zero, List.getD_cons_zero, List.getD_cons_succ, List.contains_cons, List.contains_nil, List.map_cons, List.map_nil, beq_self_eq_true, Nat.reduceBEq, dbin, dIntBin, okR, callG, frzD, pureB, leaf, leafN, List.all_cons, List.all_nil, List.nil_append, List.cons_append, List.append_nil, List.take_nil, List.length_nil, List.length_cons, dun, List.getElem?_nil, List.take_succ_cons, dcells, Nat.reduceAdd, stepBox, St.freeze, takes, ptrArgs, callArgs, given, oroom, vroom, Option.isSome_none, notAgg, ite_self, shA34, dNilEq, isLit, List.cons_append, List.nil_append, AVB]
    | (refine drW_intro (by kernel_rfl) ?_)
    | (refine gw_intro (fun h => ?_) (fun h => ?_) <;> (try simp only [beq_true, beq_false, Bool.not_eq_eq_eq_not, Bool.not_true, Bool.not_false, Bool.not_not, decide_eq_true_eq, decide_eq_false_iff_not, ge_iff_le, gt_iff_lt] at h)))
theorem chkG_zero : ∀ {r a : List Nd} {roots : Int}, (chkG a r roots).1 = 0 → chkG a r roots = (0, 0)
  | [], a, roots, h => by
    rw [chkG] at h ⊢
    split at h
    · rename_i hc
      rw [if_pos hc]
    · simp at h
  | n :: r, a, roots, h => by
    rw [chkG] at h ⊢
    split at h
    · rename_i hc
      rw [if_pos hc]
      exact chkG_zero h
    · simp at h
theorem out_of {ns : List Nd} {n o : Int} (h : inN ns n = false ∨ inN ns o = false ∨ n = o) : n < 0 ∨ (0 ≤ n ∧ (ns.length : Int) ≤ n) ∨ (0 ≤ n ∧ n < ns.length ∧ o < 0) ∨ (0 ≤ n ∧ n < ns.length ∧ 0 ≤ o ∧ (ns.length : Int) ≤ o) ∨ (0 ≤ n ∧ n < ns.length ∧ 0 ≤ o ∧ o < ns.length ∧ n = o) := by
  unfold inN at h
  simp only [Bool.and_eq_false_iff, decide_eq_false_iff_not] at h
  omega
set_option maxHeartbeats 32000000 in
theorem law4_L (hck : chk [] = true) (ns : List Nd) (hB : BigD ns) (n o : Int) : callL Tryd.prog (ext11b chk) 4 [.list (ns.map Nd.d), .int .i64 n, .int .i64 o] [] = some (.bool true, [.no], []) := by
  have h6 := sp11 (chk := chk)
  have lN := lenM ns Nd.d
  have h7 : callL Tryd.prog (ext11b chk) 7 [.list (ns.map Nd.d), .int .i64 60] [] = some (.bool (greatF ns 60), [.no], []) := great_L (chk := chk) ns 60 (by decide)
  cases hgr : greatF ns 60 with
  | true =>
    rw [hgr] at h7
    clear hgr hB
    generalize ns.map Nd.d = NS at *
    refine callK (m := 130) (res := [6]) (rs := [.tmp 6]) rfl Tryd.func4 rfl rfl rfl rfl rfl ?_
    repeat' (first
    | simp only [*, guardG, opG, inB, sval, stake, eats, eaters, get, cval, cval1, croom, St.taken, endQ, endR, endV, rvars, rvar, room1, ↓reduceIte, Nat.reduceLT, reduceCtorEq, List.filterMap_cons, List.filterMap_nil, Option.bind_some, Option.map_some, List.getD_cons_zero, List.contains_cons, List.contains_nil, List.map_cons, List.map_nil, Nat.reduceBEq, okR, callG, pureB, leaf, leafN, List.all_cons, List.all_nil, List.nil_append, List.append_nil, List.take_nil, List.length_nil, dun, List.getElem?_nil, ptrArgs, callArgs, vroom, Option.isSome_none, notAgg, ite_self, List.nil_append, AVB]
    | (refine drW_intro (by kernel_rfl) ?_)
    | (refine gw_intro (fun h => ?_) (fun h => ?_) <;> (try simp only [beq_true, beq_false, Bool.not_eq_eq_eq_not, Bool.not_true, Bool.not_false, Bool.not_not, decide_eq_true_eq, decide_eq_false_iff_not, ge_iff_le, gt_iff_lt] at h)))
  | false =>
    rw [hgr] at h7
    have hS := great_smallD hgr (by decide)
    have hs1 := size_L (chk := chk) ns hS
    have hs2 := rsize_L (chk := chk) ns hS
    have bz : (sizeF ns != sizeF ns) = false := by simp
    have hck' := rcheck_L (chk := chk) ns hS.big
    have z0 : ((0 : Nat) : Int) = 0 := rfl
    have ln2 : (([] : List D).length : Int) = 0 := rfl
    by_cases hz : (chkF ns).1 = 0
    · have hzz : chkF ns = (0, 0) := chkG_zero hz
      rw [hzz] at hck'
      by_cases hr : inN ns n = false ∨ inN ns o = false ∨ n = o
      · have h14 := drop1_L (chk := chk) ns n o hS hzz hr
        have hk := kind_L (chk := chk) hck 2 0
        have ha := at_L (chk := chk) hck 2 0
        have hout := out_of hr
        generalize sizeF ns = Z at *
        clear hgr hB hS hz hzz hr
        generalize hL : (ns.length : Int) = LEN at *
        generalize ns.map Nd.d = NS at *
        clear hL
        rcases hout with c | ⟨c1, c2⟩ | ⟨c1, c2, c3⟩ | ⟨c1, c2, c3, c4⟩ | ⟨c1, c2, c3, c4, c5⟩
        · refine callK (m := 130) (res := [6]) (rs := [.tmp 6]) rfl Tryd.func4 rfl rfl rfl rfl rfl ?_
          repeat' (first
    | simp only [*, guardG, opG, inB, sval, stake, eats, eaters, get, cval, cval1, croom, St.taken, endQ, endR, endV, rvars, rvar, room1, ↓reduceIte, Nat.reduceEqDiff, Nat.reduceLT, reduceCtorEq, List.filterMap_cons, List.filterMap_nil, Option.bind_some, Option.map_some, Option.bind_none, List.getElem?_cons_zero, List.getElem?_cons_succ, List.getD_cons_zero, List.getD_cons_succ, List.contains_cons, List.contains_nil, List.map_cons, List.map_nil, beq_self_eq_true, Nat.reduceBEq, dbin, dIntBin, okR, callG, pureB, leaf, leafN, List.all_cons, List.all_nil, List.nil_append, List.append_nil, List.take_nil, List.length_nil, dun, List.getElem?_nil, dStrBin, Int.reduceBNe, ptrArgs, callArgs, vroom, Option.isSome_none, stepPtr, notAgg, ite_self, dNilEq, isLit, ptrIn_ifx, List.nil_append, AVB]
    | (refine drW_intro (by kernel_rfl) ?_)
    | (refine gw_intro (fun h => ?_) (fun h => ?_) <;> (try simp only [beq_true, beq_false, Bool.not_eq_eq_eq_not, Bool.not_true, Bool.not_false, Bool.not_not, decide_eq_true_eq, decide_eq_false_iff_not, ge_iff_le, gt_iff_lt] at h)))
        · have d1 : ¬ n < 0 := by omega
          refine callK (m := 130) (res := [6]) (rs := [.tmp 6]) rfl Tryd.func4 rfl rfl rfl rfl rfl ?_
          repeat' (first
    | simp only [*, guardG, opG, inB, sval, stake, eats, eaters, get, cval, cval1, croom, St.taken, endQ, endR, endV, rvars, rvar, room1, ↓reduceIte, Nat.reduceEqDiff, Nat.reduceLT, reduceCtorEq, List.filterMap_cons, List.filterMap_nil, Option.bind_some, Option.map_some, Option.bind_none, List.getElem?_cons_zero, List.getElem?_cons_succ, List.getD_cons_zero, List.getD_cons_succ, List.contains_cons, List.contains_nil, List.map_cons, List.map_nil, beq_self_eq_true, Nat.reduceBEq, dbin, dIntBin, okR, callG, pureB, leaf, leafN, List.all_cons, List.all_nil, List.nil_append, List.append_nil, List.take_nil, List.length_nil, dun, List.getElem?_nil, ge_iff_le, dStrBin, Int.reduceBNe, ptrArgs, callArgs, vroom, Option.isSome_none, stepPtr, notAgg, ite_self, dNilEq, isLit, ptrIn_ifx, List.nil_append, AVB]
    | (refine drW_intro (by kernel_rfl) ?_)
    | (refine gw_intro (fun h => ?_) (fun h => ?_) <;> (try simp only [beq_true, beq_false, Bool.not_eq_eq_eq_not, Bool.not_true, Bool.not_false, Bool.not_not, decide_eq_true_eq, decide_eq_false_iff_not, ge_iff_le, gt_iff_lt] at h)))
        · have d1 : ¬ n < 0 := by omega
          have d2 : ¬ LEN ≤ n := by omega
          refine callK (m := 130) (res := [6]) (rs := [.tmp 6]) rfl Tryd.func4 rfl rfl rfl rfl rfl ?_
          repeat' (first
    | simp only [*, guardG, opG, inB, sval, stake, eats, eaters, get, cval, cval1, croom, St.taken, endQ, endR, endV, rvars, rvar, room1, ↓reduceIte, Nat.reduceEqDiff, Nat.reduceLT, reduceCtorEq, List.filterMap_cons, List.filterMap_nil, Option.bind_some, Option.map_some, Option.bind_none, List.getElem?_cons_zero, List.getElem?_cons_succ, List.getD_cons_zero, List.getD_cons_succ, List.contains_cons, List.contains_nil, List.map_cons, List.map_nil, beq_self_eq_true, Nat.reduceBEq, dbin, dIntBin, okR, callG, pureB, leaf, leafN, List.all_cons, List.all_nil, List.nil_append, List.append_nil, List.take_nil, List.length_nil, dun, List.getElem?_nil, ge_iff_le, dStrBin, Int.reduceBNe, ptrArgs, callArgs, vroom, Option.isSome_none, stepPtr, notAgg, ite_self, dNilEq, isLit, ptrIn_ifx, List.nil_append, AVB]
    | (refine drW_intro (by kernel_rfl) ?_)
    | (refine gw_intro (fun h => ?_) (fun h => ?_) <;> (try simp only [beq_true, beq_false, Bool.not_eq_eq_eq_not, Bool.not_true, Bool.not_false, Bool.not_not, decide_eq_true_eq, decide_eq_false_iff_not, ge_iff_le, gt_iff_lt] at h)))
        · have d1 : ¬ n < 0 := by omega
          have d2 : ¬ LEN ≤ n := by omega
          have d3 : ¬ o < 0 := by omega
          refine callK (m := 130) (res := [6]) (rs := [.tmp 6]) rfl Tryd.func4 rfl rfl rfl rfl rfl ?_
          repeat' (first
    | simp only [*, guardG, opG, inB, sval, stake, eats, eaters, get, cval, cval1, croom, St.taken, endQ, endR, endV, rvars, rvar, room1, ↓reduceIte, Nat.reduceEqDiff, Nat.reduceLT, reduceCtorEq, List.filterMap_cons, List.filterMap_nil, Option.bind_some, Option.map_some, Option.bind_none, List.getElem?_cons_zero, List.getElem?_cons_succ, List.getD_cons_zero, List.getD_cons_succ, List.contains_cons, List.contains_nil, List.map_cons, List.map_nil, beq_self_eq_true, Nat.reduceBEq, dbin, dIntBin, okR, callG, pureB, leaf, leafN, List.all_cons, List.all_nil, List.nil_append, List.append_nil, List.take_nil, List.length_nil, dun, List.getElem?_nil, ge_iff_le, dStrBin, Int.reduceBNe, ptrArgs, callArgs, vroom, Option.isSome_none, stepPtr, notAgg, ite_self, dNilEq, isLit, ptrIn_ifx, List.nil_append, AVB]
    | (refine drW_intro (by kernel_rfl) ?_)
    | (refine gw_intro (fun h => ?_) (fun h => ?_) <;> (try simp only [beq_true, beq_false, Bool.not_eq_eq_eq_not, Bool.not_true, Bool.not_false, Bool.not_not, decide_eq_true_eq, decide_eq_false_iff_not, ge_iff_le, gt_iff_lt] at h)))
        · subst c5
          have d1 : ¬ n < 0 := by omega
          have d2 : ¬ LEN ≤ n := by omega
          have b1 : (n == n) = true := by simp
          clear c3 c4
          refine callK (m := 130) (res := [6]) (rs := [.tmp 6]) rfl Tryd.func4 rfl rfl rfl rfl rfl ?_
          repeat' (first
    | simp only [*, guardG, opG, inB, sval, stake, eats, eaters, get, cval, cval1, croom, St.taken, endQ, endR, endV, rvars, rvar, room1, ↓reduceIte, Nat.reduceEqDiff, Nat.reduceLT, reduceCtorEq, List.filterMap_cons, List.filterMap_nil, Option.bind_some, Option.map_some, Option.bind_none, List.getElem?_cons_zero, List.getElem?_cons_succ, List.getD_cons_zero, List.getD_cons_succ, List.contains_cons, List.contains_nil, List.map_cons, List.map_nil, beq_self_eq_true, Nat.reduceBEq, dbin, dIntBin, okR, callG, pureB, leaf, leafN, List.all_cons, List.all_nil, List.nil_append, List.append_nil, List.take_nil, List.length_nil, dun, List.getElem?_nil, ge_iff_le, dStrBin, Int.reduceBNe, ptrArgs, callArgs, vroom, Option.isSome_none, stepPtr, notAgg, ite_self, dNilEq, isLit, ptrIn_ifx, List.nil_append, AVB]
    | (refine drW_intro (by kernel_rfl) ?_)
    | (refine gw_intro (fun h => ?_) (fun h => ?_) <;> (try simp only [beq_true, beq_false, Bool.not_eq_eq_eq_not, Bool.not_true, Bool.not_false, Bool.not_not, decide_eq_true_eq, decide_eq_false_iff_not, ge_iff_le, gt_iff_lt] at h)))
      · simp only [not_or, Bool.not_eq_false] at hr
        obtain ⟨hr1, hr2, hr3⟩ := hr
        obtain ⟨i, rfl, hi⟩ := in_of hr1
        obtain ⟨j, rfl, hj⟩ := in_of hr2
        have hij : i ≠ j := fun e => hr3 (by rw [e])
        have hmy := may_L (chk := chk) ns i hi hS.1
        have d1 : ¬ (i : Int) < 0 := by omega
        have d2 : ¬ (ns.length : Int) ≤ i := by omega
        have d3 : ¬ (j : Int) < 0 := by omega
        have d4 : ¬ (ns.length : Int) ≤ j := by omega
        have b1 : ((i : Int) == (j : Int)) = false := by simp; omega
        cases hm : mayF ns i with
        | false =>
          have h14 := drop2_L (chk := chk) ns i j hS hzz hi hj hij hm
          have hk := kind_L (chk := chk) hck 1 (i : Int)
          have ha := at_L (chk := chk) hck 1 (i : Int)
          have b2 : ((i : Int) == (i : Int)) = true := by simp
          rw [hm] at hmy
          generalize sizeF ns = Z at *
          clear hgr hB hS hz hzz hr1 hr2 hr3 hij hi hj hm
          generalize hL : (ns.length : Int) = LEN at *
          generalize ns.map Nd.d = NS at *
          clear hL
          refine callK (m := 130) (res := [6]) (rs := [.tmp 6]) rfl Tryd.func4 rfl rfl rfl rfl rfl ?_
          repeat' (first
    | simp only [*, guardG, opG, inB, sval, stake, eats, eaters, get, cval, cval1, croom, St.taken, endQ, endR, endV, rvars, rvar, room1, ↓reduceIte, Nat.reduceEqDiff, Nat.reduceLT, reduceCtorEq, List.filterMap_cons, List.filterMap_nil, Option.bind_some, Option.map_some, Option.bind_none, List.getElem?_cons_zero, List.getElem?_cons_succ, List.getD_cons_zero, List.getD_cons_succ, List.contains_cons, List.contains_nil, List.map_cons, List.map_nil, beq_self_eq_true, Nat.reduceBEq, dbin, dIntBin, okR, callG, pureB, leaf, leafN, List.all_cons, List.all_nil, List.nil_append, List.append_nil, List.take_nil, List.length_nil, dun, List.getElem?_nil, ge_iff_le, dStrBin, Int.reduceBNe, ptrArgs, callArgs, vroom, Option.isSome_none, stepPtr, notAgg, ite_self, dNilEq, isLit, ptrIn_ifx, List.nil_append, AVB]
    | (refine drW_intro (by kernel_rfl) ?_)
    | (refine gw_intro (fun h => ?_) (fun h => ?_) <;> (try simp only [beq_true, beq_false, Bool.not_eq_eq_eq_not, Bool.not_true, Bool.not_false, Bool.not_not, decide_eq_true_eq, decide_eq_false_iff_not, ge_iff_le, gt_iff_lt] at h)))
        | true =>
          have h14 := drop3_L (chk := chk) ns i j hS hzz hi hj hij hm
          rw [hm] at hmy
          have hSW := without_small (i := i) hS
          have hc2 := rcheck_L (chk := chk) (withoutN ns i) hSW.big
          rw [without_right hzz hi hm] at hc2
          have hpb := par_bound hzz hS.1
          have hl := hS.1
          have hw := rwith_L (chk := chk) ns i hl (fun x hx => by have := hpb x hx; omega)
          have hsm := rsame_L (chk := chk) (withoutN ns i) (withoutN ns i) hSW.small hSW.small
          rw [decide_eq_true rfl] at hsm
          obtain ⟨x, hx⟩ := some_at hj
          have hxb := getD_map (f := Nd.d) hx
          have hxs : SmallN x := hS.2 x (List.mem_of_getElem? hx)
          have hlm := lmoved_L (chk := chk) x (i : Int) (by omega) (by have := hpb x (List.mem_of_getElem? hx); omega)
          have hsn := rnode_L (chk := chk) (lowNd i x) (lowNd i x) ⟨hxs.1, hxs.2.1⟩ ⟨hxs.1, hxs.2.1⟩
          rw [decide_eq_true rfl] at hsn
          have hlW : (withoutN ns i).length = ns.length - 1 := by unfold withoutN; rw [List.length_map, List.length_eraseIdx, if_pos hi]
          have lW := lenM (withoutN ns i) Nd.d
          have hwj : IntKind.i64.wrap ((j : Int) - 1) = (j : Int) - 1 := by rw [wrap64 _ (by omega) (by omega)]
          have hplace : ∃ k : Nat, movF (j : Int) (i : Int) = (k : Int) ∧ k < (withoutN ns i).length ∧ (withoutN ns i)[k]? = some (lowNd i x) := by
            unfold movF
            by_cases c : (i : Int) < j
            · rw [if_pos c]
              refine ⟨j - 1, by omega, by rw [hlW]; omega, ?_⟩
              rw [without_at, if_neg (by omega), show j - 1 + 1 = j by omega, hx]
              rfl
            · rw [if_neg c]
              refine ⟨j, rfl, by rw [hlW]; omega, ?_⟩
              rw [without_at, if_pos (by omega), hx]
              rfl
          obtain ⟨k, hk1, hk2, hk3⟩ := hplace
          have hkb := getD_map (f := Nd.d) hk3
          have e9 : (k : Int) < (withoutN ns i).length := by omega
          have jn : (j : Int) < ns.length := by omega
          have b2 : ((k : Int) == (k : Int)) = true := by simp
          rw [hk1] at h14
          have lex : (lowNd i x).d = .agg [.int .i64 (lowP i x.p), .int .i64 x.k, .str x.sp, .str x.nm, .list (x.at_.map At.d), .list (x.st.map .str), .str x.tx] := rfl
          rw [lex] at hlm hsn hkb
          rw [ndat] at hxb hlm
          generalize lowP i x.p = PP at *
          generalize sizeF ns = Z at *
          generalize roomN (withoutN ns i) = RN at *
          unfold movF at hk1
          by_cases c : (i : Int) < j
          · rw [if_pos c] at hk1
            replace hwj := hwj.trans hk1
            clear hgr hB hS hz hzz hr1 hr2 hr3 hij hi hj hm hSW hpb hx hxs hk2 hk3 hlW hl lex hk1
            generalize x.at_.map At.d = XA at *
            generalize x.st.map D.str = XS at *
            generalize (withoutN ns i).map Nd.d = WN at *
            generalize hLW : ((withoutN ns i).length : Int) = LW at *
            generalize hL : (ns.length : Int) = LEN at *
            generalize ns.map Nd.d = NS at *
            clear hL hLW
            refine callK (m := 130) (res := [6]) (rs := [.tmp 6]) rfl Tryd.func4 rfl rfl rfl rfl rfl ?_
            repeat' (first
    | simp only [*, guardG, opG, opD, inB, sval, stake, eats, eaters, get, cval, cval1, croom, St.taken, endQ, endR, endV, rvars, rvar, room1, ↓reduceIte, Nat.reduceEqDiff, Nat.reduceLT, reduceCtorEq, List.filterMap_cons, List.filterMap_nil, Option.bind_some, Option.map_some, Option.bind_none, List.getElem?_cons_zero, List.getElem?_cons_succ, List.getD_cons_zero, List.getD_cons_succ, List.contains_cons, List.contains_nil, List.map_cons, List.map_nil, beq_self_eq_true, Nat.reduceBEq, dbin, dIntBin, okR, callG, isLocal, isAlloc, loadsOwn, pureB, leaf, leafN, List.all_cons, List.all_nil, List.nil_append, List.append_nil, List.take_nil, List.length_nil, List.length_cons, dun, List.getElem?_nil, dcells, Nat.reduceAdd, ge_iff_le, gt_iff_lt, dStrBin, Int.reduceBNe, isBar, allocKeys, takes, ptrArgs, callArgs, vroom, Option.isSome_none, stepTake, stepPtr, notAgg, ite_self, shA34, dNilEq, isLit, List.nil_append, AVB]
    | (refine drW_intro (by kernel_rfl) ?_)
    | (refine gw_intro (fun h => ?_) (fun h => ?_) <;> (try simp only [beq_true, beq_false, Bool.not_eq_eq_eq_not, Bool.not_true, Bool.not_false, Bool.not_not, decide_eq_true_eq, decide_eq_false_iff_not, ge_iff_le, gt_iff_lt] at h)))
          · rw [if_neg c] at hk1
            have b3 : ((k : Int) == (j : Int)) = true := by rw [hk1]; simp
            clear hgr hB hS hz hzz hr1 hr2 hr3 hij hi hj hm hSW hpb hx hxs hk2 hk3 hlW hl lex hwj
            clear hk1
            generalize x.at_.map At.d = XA at *
            generalize x.st.map D.str = XS at *
            generalize (withoutN ns i).map Nd.d = WN at *
            generalize hLW : ((withoutN ns i).length : Int) = LW at *
            generalize hL : (ns.length : Int) = LEN at *
            generalize ns.map Nd.d = NS at *
            clear hL hLW
            refine callK (m := 130) (res := [6]) (rs := [.tmp 6]) rfl Tryd.func4 rfl rfl rfl rfl rfl ?_
            repeat' (first
    | simp only [*, guardG, opG, opD, inB, sval, stake, eats, eaters, get, cval, cval1, croom, St.taken, endQ, endR, endV, rvars, rvar, room1, ↓reduceIte, Nat.reduceEqDiff, Nat.reduceLT, reduceCtorEq, List.filterMap_cons, List.filterMap_nil, Option.bind_some, Option.map_some, Option.bind_none, List.getElem?_cons_zero, List.getElem?_cons_succ, List.getD_cons_zero, List.getD_cons_succ, List.contains_cons, List.contains_nil, List.map_cons, List.map_nil, beq_self_eq_true, Nat.reduceBEq, dbin, dIntBin, okR, callG, isLocal, isAlloc, loadsOwn, pureB, leaf, leafN, List.all_cons, List.all_nil, List.nil_append, List.append_nil, List.take_nil, List.length_nil, List.length_cons, dun, List.getElem?_nil, dcells, Nat.reduceAdd, ge_iff_le, gt_iff_lt, dStrBin, Int.reduceBNe, isBar, allocKeys, takes, ptrArgs, callArgs, vroom, Option.isSome_none, stepTake, stepPtr, notAgg, ite_self, shA34, dNilEq, isLit, List.nil_append, AVB]
    | (refine drW_intro (by kernel_rfl) ?_)
    | (refine gw_intro (fun h => ?_) (fun h => ?_) <;> (try simp only [beq_true, beq_false, Bool.not_eq_eq_eq_not, Bool.not_true, Bool.not_false, Bool.not_not, decide_eq_true_eq, decide_eq_false_iff_not, ge_iff_le, gt_iff_lt] at h)))
    · have h14 := drop0_L (chk := chk) ns n o hS hz
      have hk := kind_L (chk := chk) hck 10 0
      have ha := at_L (chk := chk) hck 10 0
      have hne : ((chkF ns).1 != 0) = true := by simpa using hz
      generalize sizeF ns = Z at *
      clear hgr hB hS hz
      generalize (chkF ns).1 = k1 at *
      generalize (chkF ns).2 = k2 at *
      generalize ns.map Nd.d = NS at *
      refine callK (m := 130) (res := [6]) (rs := [.tmp 6]) rfl Tryd.func4 rfl rfl rfl rfl rfl ?_
      repeat' (first
    | simp only [*, guardG, opG, inB, sval, stake, eats, eaters, get, cval, cval1, croom, St.taken, endQ, endR, endV, rvars, rvar, room1, ↓reduceIte, Nat.reduceEqDiff, Nat.reduceLT, reduceCtorEq, List.filterMap_cons, List.filterMap_nil, Option.bind_some, Option.map_some, Option.bind_none, List.getElem?_cons_zero, List.getElem?_cons_succ, List.getD_cons_zero, List.getD_cons_succ, List.contains_cons, List.contains_nil, List.map_cons, List.map_nil, beq_self_eq_true, Nat.reduceBEq, dbin, dIntBin, okR, callG, pureB, leaf, leafN, List.all_cons, List.all_nil, List.nil_append, List.append_nil, List.take_nil, List.length_nil, dun, List.getElem?_nil, dStrBin, Int.reduceBNe, ptrArgs, callArgs, vroom, Option.isSome_none, stepPtr, notAgg, ite_self, dNilEq, isLit, ptrIn_ifx, List.nil_append, AVB]
    | (refine drW_intro (by kernel_rfl) ?_)
    | (refine gw_intro (fun h => ?_) (fun h => ?_) <;> (try simp only [beq_true, beq_false, Bool.not_eq_eq_eq_not, Bool.not_true, Bool.not_false, Bool.not_not, decide_eq_true_eq, decide_eq_false_iff_not, ge_iff_le, gt_iff_lt] at h)))
end Go.Av
