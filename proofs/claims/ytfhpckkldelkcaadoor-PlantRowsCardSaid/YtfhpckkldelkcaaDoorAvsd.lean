/- The evaluator, in one text: over any program; no conditions but those that each law names. -/
import Derived.Test.YtfhpckkldelkcaaDoorAvsc
set_option linter.unusedSimpArgs false
set_option linter.unusedVariables false
set_option linter.unusedSectionVars false
set_option maxRecDepth 100000
namespace Go.Av
open Go.Proofs
variable [Ek] {chk : List D → Bool}
theorem szA (l : List At) : szOk 3 (l.map At.d) = true := by cases l <;> rfl
theorem szS (l : List (List UInt8)) : szOk 1 (l.map D.str) = true := by cases l <;> rfl
theorem szN (l : List Nd) : szOk 7 (l.map Nd.d) = true := by cases l <;> rfl
def atOk (a : At) : Bool := !(a.nm == []) && (goodB a.sp && (goodB a.nm && goodB a.vl))
def attrsG : List At → List At → Bool
  | _, [] => true
  | p, a :: r => (atOk a && !(p.any (sameN a.sp a.nm))) && attrsG (p ++ [a]) r
def attrsB (l : List At) : Bool := attrsG [] l
def statesG : List (List UInt8) → List (List UInt8) → Bool
  | _, [] => true
  | p, s :: r => (stS.contains s && !(p.contains s)) && statesG (p ++ [s]) r
def statesB (l : List (List UInt8)) : Bool := statesG [] l
theorem attrsG_at {xs : List At} {i : Nat} {x : At} (hx : xs[i]? = some x) : attrsG (xs.take i) (xs.drop i) = ((atOk x && !((xs.take i).any (sameN x.sp x.nm))) && attrsG (xs.take (i + 1)) (xs.drop (i + 1))) := by
  have h1 : i < xs.length := (List.getElem?_eq_some_iff.1 hx).1
  have e1 : xs[i] = x := (List.getElem?_eq_some_iff.1 hx).2
  rw [List.drop_eq_getElem_cons h1, e1, attrsG, List.take_succ_eq_append_getElem h1, e1]
theorem statesG_at {xs : List (List UInt8)} {i : Nat} {x : List UInt8} (hx : xs[i]? = some x) : statesG (xs.take i) (xs.drop i) = ((stS.contains x && !((xs.take i).contains x)) && statesG (xs.take (i + 1)) (xs.drop (i + 1))) := by
  have h1 : i < xs.length := (List.getElem?_eq_some_iff.1 hx).1
  have e1 : xs[i] = x := (List.getElem?_eq_some_iff.1 hx).2
  rw [List.drop_eq_getElem_cons h1, e1, statesG, List.take_succ_eq_append_getElem h1, e1]
theorem attrsG_end {xs : List At} {i : Nat} (h : xs.length ≤ i) : attrsG (xs.take i) (xs.drop i) = true := by
  rw [List.drop_eq_nil_of_le h]
  rfl
theorem statesG_end {xs : List (List UInt8)} {i : Nat} (h : xs.length ≤ i) : statesG (xs.take i) (xs.drop i) = true := by
  rw [List.drop_eq_nil_of_le h]
  rfl
def BigA (a : At) : Prop := a.sp.length ≤ 140737488355328 ∧ a.nm.length ≤ 140737488355328 ∧ a.vl.length ≤ 140737488355328
def SmallA (a : At) : Prop := a.sp.length ≤ 1000000 ∧ a.nm.length ≤ 1000000 ∧ a.vl.length ≤ 1000000
set_option maxHeartbeats 16000000 in
theorem attrs_L (l : List At) (hl : l.length ≤ 1000000) (hS : ∀ a ∈ l, SmallA a) : callL Tryd.prog (ext11b chk) 61 [.list (l.map At.d)] [] = some (.bool (attrsB l), [.no], []) := by
  have lN := lenM l At.d
  refine callK (m := 45) (res := [2]) (rs := [.tmp 2]) rfl Tryd.func61 rfl rfl rfl rfl rfl ?_
  have HL := Hd.mk hl
  have HS := Hd.mk hS
  clear hl hS
  obtain ⟨R, hR⟩ : ∃ R, Hd (R = attrsG (l.take 0) (l.drop 0)) := ⟨_, rfl⟩
  rw [show attrsB l = R from (show R = attrsG (l.take 0) (l.drop 0) from hR).symm]
  repeat' (first
    | simp only [*, guardG, opG, inB, sval, stake, eats, eaters, get, cval, cval1, croom, St.taken, ↓reduceIte, Nat.reduceLT, reduceCtorEq, List.filterMap_cons, List.filterMap_nil, Option.map_some, Option.bind_none, List.getD_cons_zero, List.contains_cons, List.contains_nil, Nat.reduceBEq, List.append_nil, List.length_nil, ptrArgs, callArgs, vroom, Option.isSome_none, AVB]
    | (refine drW_intro (by kernel_rfl) ?_)
    | (refine gw_intro (fun h => ?_) (fun h => ?_) <;> (try simp only [beq_true, beq_false, Bool.not_eq_eq_eq_not, Bool.not_true, Bool.not_false, Bool.not_not, decide_eq_true_eq, decide_eq_false_iff_not, ge_iff_le, gt_iff_lt] at h)))
  refine loopH (fun st => ∃ i : Nat, i ≤ l.length ∧ st.slot 7 = .int .i64 i ∧ st.slot 5 = .list (l.map At.d) ∧ st.slot 6 = .int .i64 l.length ∧ st.slot 0 = .list (l.map At.d) ∧ st.slot 2 = .bool false ∧ st.room 2 = [] ∧ Hd (R = attrsG (l.take i) (l.drop i))) (fun st => l.length - slotI st 7) ?_ ?_
  · refine ⟨0, Nat.zero_le _, ?_, ?_, ?_, ?_, ?_, ?_, hR⟩
    all_goals simp only [*, put_slot, put_room, entry_slot, ↓reduceIte, Nat.reduceEqDiff, reduceCtorEq, List.getD_cons_zero]
    all_goals rfl
  · rintro st K ⟨i, hi, g0, g1, g2, g3, g4, g5, hO⟩ hn hx hr
    have hl : l.length ≤ 1000000 := HL
    have hO' : R = attrsG (l.take i) (l.drop i) := hO
    by_cases h : i < l.length
    · have g9 : (i : Int) < l.length := by omega
      have hw := wrapS i (by omega)
      obtain ⟨x, hx1⟩ := some_at h
      rw [attrsG_at hx1] at hO'
      have ha := getD_map (f := At.d) hx1
      have hS : ∀ a ∈ l, SmallA a := HS
      obtain ⟨s1, s2, s3⟩ : SmallA x := hS x (List.mem_of_getElem? hx1)
      obtain ⟨a1, a2, a3⟩ := x
      have ha2 : (l.map At.d).getD i .bad = .agg [.str a1, .str a2, .str a3] := ha
      clear ha
      have q1 := dright_L (chk := chk) a1 s1
      have q2 := dright_L (chk := chk) a2 s2
      have q3 := dright_L (chk := chk) a3 s3
      have q4 : callL Tryd.prog (ext11b chk) 70 [.list ((l.map At.d).take i), .str a1, .str a2] [] = some (.int .i64 (idxN (sameN a1 a2) 0 (l.take i)), [.no], []) := by
        rw [← List.map_take]
        exact attr_L (l.take i) a1 a2 (by rw [List.length_take]; omega)
      have q5 := idxN_ge (sameN a1 a2) (l.take i) 0
      have sz := szA l
      have gle : (i : Int) ≤ l.length := by omega
      simp only [atOk] at hO'
      generalize idxN (sameN a1 a2) 0 (l.take i) = X at *
      generalize (l.take i).any (sameN a1 a2) = e5 at *
      generalize goodB a1 = e1 at *
      generalize goodB a2 = e2 at *
      generalize goodB a3 = e3 at *
      clear s1 s2 s3
      cases h0 : (a2 == []) with
      | true =>
        rw [h0] at hO'
        simp only [Bool.not_true, Bool.false_and] at hO'
        subst hO'
        clear hO hn hx hl hx1 hR q5 sz
        repeat' (first
    | simp only [*, guardG, opG, opD, inB, sval, stake, eats, eaters, get, cval, cval1, croom, St.taken, ↓reduceIte, Nat.reduceEqDiff, Nat.reduceLT, Nat.reduceLeDiff, List.filterMap_cons, List.filterMap_nil, Option.bind_some, Option.map_some, Option.map_none, List.getElem?_cons_zero, List.getElem?_cons_succ, List.contains_cons, List.contains_nil, beq_self_eq_true, Nat.reduceBEq, dbin, dIntBin, okR, callG, isLocal, isAlloc, loadsOwn, pureB, leaf, leafN, List.all_cons, List.all_nil, List.nil_append, List.append_nil, List.length_nil, List.length_cons, dun, List.take_zero, List.drop_succ_cons, dcells, Nat.reduceAdd, stepBox, dStrBin, isBar, allocKeys, takes, ptrArgs, callArgs, given, oroom, vroom, stepTake, stepPtr, List.drop_succ_cons, List.drop_nil, AVB]
    | (refine drW_intro (by kernel_rfl) ?_)
    | (refine gw_intro (fun h => ?_) (fun h => ?_) <;> (try simp only [beq_true, beq_false, Bool.not_eq_eq_eq_not, Bool.not_true, Bool.not_false, Bool.not_not, decide_eq_true_eq, decide_eq_false_iff_not, ge_iff_le, gt_iff_lt] at h)))
        refine hr _ ?_
        repeat' (first
    | simp only [*, put_slot, put_room, put_box, dem_box, setBox_box, endQ, endR, endV, rvars, rvar, room1, ↓reduceIte, List.map_nil, pureB, leaf, leafN, List.take_nil, List.range_zero, and_self, notAgg]
    | (refine drW_intro (by kernel_rfl) ?_)
    | (refine gw_intro (fun h => ?_) (fun h => ?_) <;> (try simp only [beq_true, beq_false, Bool.not_eq_eq_eq_not, Bool.not_true, Bool.not_false, Bool.not_not, decide_eq_true_eq, decide_eq_false_iff_not, ge_iff_le, gt_iff_lt] at h)))
      | false =>
        rw [h0] at hO'
        cases e1 with
        | false =>
          simp only [Bool.not_false, Bool.false_and, Bool.true_and] at hO'
          subst hO'
          clear hO hn hx hl hx1 hR q5 sz
          repeat' (first
    | simp only [*, guardG, opG, opD, inB, sval, stake, eats, eaters, get, cval, cval1, croom, St.taken, ↓reduceIte, Nat.reduceEqDiff, Nat.reduceLT, Nat.reduceLeDiff, List.filterMap_cons, List.filterMap_nil, Option.bind_some, Option.map_some, Option.map_none, List.getElem?_cons_zero, List.getElem?_cons_succ, List.contains_cons, List.contains_nil, List.map_cons, List.map_nil, beq_self_eq_true, Nat.reduceBEq, dbin, dIntBin, okR, callG, isLocal, isAlloc, loadsOwn, pureB, leaf, leafN, List.all_cons, List.all_nil, List.nil_append, List.append_nil, List.length_nil, List.length_cons, dun, List.take_zero, List.drop_succ_cons, dcells, Nat.reduceAdd, stepBox, dStrBin, isBar, allocKeys, takes, ptrArgs, callArgs, given, oroom, vroom, Option.isSome_none, stepTake, stepPtr, List.drop_succ_cons, List.drop_nil, AVB]
    | (refine drW_intro (by kernel_rfl) ?_)
    | (refine gw_intro (fun h => ?_) (fun h => ?_) <;> (try simp only [beq_true, beq_false, Bool.not_eq_eq_eq_not, Bool.not_true, Bool.not_false, Bool.not_not, decide_eq_true_eq, decide_eq_false_iff_not, ge_iff_le, gt_iff_lt] at h)))
          refine hr _ ?_
          repeat' (first
    | simp only [*, put_slot, put_room, put_box, dem_box, setBox_box, endQ, endR, endV, rvars, rvar, room1, ↓reduceIte, List.map_nil, pureB, leaf, leafN, List.take_nil, List.range_zero, and_self, notAgg]
    | (refine drW_intro (by kernel_rfl) ?_)
    | (refine gw_intro (fun h => ?_) (fun h => ?_) <;> (try simp only [beq_true, beq_false, Bool.not_eq_eq_eq_not, Bool.not_true, Bool.not_false, Bool.not_not, decide_eq_true_eq, decide_eq_false_iff_not, ge_iff_le, gt_iff_lt] at h)))
        | true =>
          cases e2 with
          | false =>
            simp only [Bool.not_false, Bool.false_and, Bool.true_and] at hO'
            subst hO'
            clear hO hn hx hl hx1 hR q5 sz
            repeat' (first
    | simp only [*, guardG, opG, opD, inB, sval, stake, eats, eaters, get, cval, cval1, croom, St.taken, ↓reduceIte, Nat.reduceEqDiff, Nat.reduceLT, Nat.reduceLeDiff, List.filterMap_cons, List.filterMap_nil, Option.bind_some, Option.map_some, Option.map_none, List.getElem?_cons_zero, List.getElem?_cons_succ, List.contains_cons, List.contains_nil, List.map_cons, List.map_nil, beq_self_eq_true, Nat.reduceBEq, dbin, dIntBin, okR, callG, isLocal, isAlloc, loadsOwn, pureB, leaf, leafN, List.all_cons, List.all_nil, List.nil_append, List.append_nil, List.length_nil, List.length_cons, dun, List.take_zero, List.drop_succ_cons, dcells, Nat.reduceAdd, stepBox, dStrBin, isBar, allocKeys, takes, ptrArgs, callArgs, given, oroom, vroom, Option.isSome_none, stepTake, stepPtr, List.drop_succ_cons, List.drop_nil, AVB]
    | (refine drW_intro (by kernel_rfl) ?_)
    | (refine gw_intro (fun h => ?_) (fun h => ?_) <;> (try simp only [beq_true, beq_false, Bool.not_eq_eq_eq_not, Bool.not_true, Bool.not_false, Bool.not_not, decide_eq_true_eq, decide_eq_false_iff_not, ge_iff_le, gt_iff_lt] at h)))
            refine hr _ ?_
            repeat' (first
    | simp only [*, put_slot, put_room, put_box, dem_box, setBox_box, endQ, endR, endV, rvars, rvar, room1, ↓reduceIte, List.map_nil, pureB, leaf, leafN, List.take_nil, List.range_zero, and_self, notAgg]
    | (refine drW_intro (by kernel_rfl) ?_)
    | (refine gw_intro (fun h => ?_) (fun h => ?_) <;> (try simp only [beq_true, beq_false, Bool.not_eq_eq_eq_not, Bool.not_true, Bool.not_false, Bool.not_not, decide_eq_true_eq, decide_eq_false_iff_not, ge_iff_le, gt_iff_lt] at h)))
          | true =>
            cases e3 with
            | false =>
              simp only [Bool.not_false, Bool.false_and, Bool.true_and] at hO'
              subst hO'
              clear hO hn hx hl hx1 hR q5 sz
              repeat' (first
    | simp only [*, guardG, opG, opD, inB, sval, stake, eats, eaters, get, cval, cval1, croom, St.taken, ↓reduceIte, Nat.reduceEqDiff, Nat.reduceLT, Nat.reduceLeDiff, List.filterMap_cons, List.filterMap_nil, Option.bind_some, Option.map_some, Option.map_none, List.getElem?_cons_zero, List.getElem?_cons_succ, List.contains_cons, List.contains_nil, List.map_cons, List.map_nil, beq_self_eq_true, Nat.reduceBEq, dbin, dIntBin, okR, callG, isLocal, isAlloc, loadsOwn, pureB, leaf, leafN, List.all_cons, List.all_nil, List.nil_append, List.append_nil, List.length_nil, List.length_cons, dun, List.take_zero, List.drop_succ_cons, dcells, Nat.reduceAdd, stepBox, dStrBin, isBar, allocKeys, takes, ptrArgs, callArgs, given, oroom, vroom, Option.isSome_none, stepTake, stepPtr, List.drop_succ_cons, List.drop_nil, AVB]
    | (refine drW_intro (by kernel_rfl) ?_)
    | (refine gw_intro (fun h => ?_) (fun h => ?_) <;> (try simp only [beq_true, beq_false, Bool.not_eq_eq_eq_not, Bool.not_true, Bool.not_false, Bool.not_not, decide_eq_true_eq, decide_eq_false_iff_not, ge_iff_le, gt_iff_lt] at h)))
              refine hr _ ?_
              repeat' (first
    | simp only [*, put_slot, put_room, put_box, dem_box, setBox_box, endQ, endR, endV, rvars, rvar, room1, ↓reduceIte, List.map_nil, pureB, leaf, leafN, List.take_nil, List.range_zero, and_self, notAgg]
    | (refine drW_intro (by kernel_rfl) ?_)
    | (refine gw_intro (fun h => ?_) (fun h => ?_) <;> (try simp only [beq_true, beq_false, Bool.not_eq_eq_eq_not, Bool.not_true, Bool.not_false, Bool.not_not, decide_eq_true_eq, decide_eq_false_iff_not, ge_iff_le, gt_iff_lt] at h)))
            | true =>
              cases e5 with
              | true =>
                simp only [Bool.not_false, Bool.not_true, Bool.false_and, Bool.true_and] at hO'
                have q6 : (0 : Int) ≤ X := by simpa using q5
                subst hO'
                clear hO hn hx hl hx1 hR q5
                repeat' (first
    | simp only [*, guardG, opG, opD, inB, sval, stake, eats, eaters, get, cval, cval1, croom, St.taken, ↓reduceIte, Nat.reduceEqDiff, Nat.reduceLT, Nat.reduceLeDiff, reduceCtorEq, List.filterMap_cons, List.filterMap_nil, Option.bind_some, Option.map_some, Option.map_none, List.getElem?_cons_zero, List.getElem?_cons_succ, List.contains_cons, List.contains_nil, List.map_cons, List.map_nil, beq_self_eq_true, Nat.reduceBEq, dbin, dIntBin, okR, callG, isLocal, isAlloc, loadsOwn, pureB, leaf, leafN, List.all_cons, List.all_nil, List.nil_append, List.append_nil, List.length_nil, List.length_cons, dun, List.take_zero, List.drop_zero, List.drop_succ_cons, dcells, Nat.reduceAdd, stepBox, dopt, dbound, ge_iff_le, dStrBin, isBar, allocKeys, takes, ptrArgs, callArgs, given, oroom, vroom, Option.isSome_none, stepTake, stepPtr, List.drop_succ_cons, List.drop_nil, List.drop_zero, AVB]
    | (refine drW_intro (by kernel_rfl) ?_)
    | (refine gw_intro (fun h => ?_) (fun h => ?_) <;> (try simp only [beq_true, beq_false, Bool.not_eq_eq_eq_not, Bool.not_true, Bool.not_false, Bool.not_not, decide_eq_true_eq, decide_eq_false_iff_not, ge_iff_le, gt_iff_lt] at h)))
                refine hr _ ?_
                repeat' (first
    | simp only [*, put_slot, put_room, put_box, dem_box, setBox_box, endQ, endR, endV, rvars, rvar, room1, ↓reduceIte, List.map_nil, pureB, leaf, leafN, List.take_nil, List.range_zero, and_self, notAgg]
    | (refine drW_intro (by kernel_rfl) ?_)
    | (refine gw_intro (fun h => ?_) (fun h => ?_) <;> (try simp only [beq_true, beq_false, Bool.not_eq_eq_eq_not, Bool.not_true, Bool.not_false, Bool.not_not, decide_eq_true_eq, decide_eq_false_iff_not, ge_iff_le, gt_iff_lt] at h)))
              | false =>
                simp only [Bool.not_false, Bool.true_and] at hO'
                have q6 : ¬ (0 : Int) ≤ X := by simpa using q5
                have HO := Hd.mk hO'
                clear hO hO' hx hr hl hx1 q5
                repeat' (first
    | simp only [*, guardG, opG, opD, inB, sval, stake, eats, eaters, get, cval, cval1, croom, St.taken, ↓reduceIte, Nat.reduceEqDiff, Nat.reduceLT, Nat.reduceLeDiff, reduceCtorEq, List.filterMap_cons, List.filterMap_nil, Option.bind_some, Option.map_some, Option.map_none, List.getElem?_cons_zero, List.getElem?_cons_succ, List.contains_cons, List.contains_nil, List.map_cons, List.map_nil, beq_self_eq_true, Nat.reduceBEq, dbin, dIntBin, okR, callG, isLocal, isAlloc, loadsOwn, pureB, leaf, leafN, List.all_cons, List.all_nil, List.nil_append, List.append_nil, List.length_nil, List.length_cons, dun, List.take_zero, List.drop_zero, List.drop_succ_cons, dcells, Nat.reduceAdd, stepBox, dopt, dbound, ge_iff_le, dStrBin, isBar, allocKeys, takes, ptrArgs, callArgs, given, oroom, vroom, Option.isSome_none, stepTake, stepPtr, List.drop_succ_cons, List.drop_nil, List.drop_zero, AVB]
    | (refine drW_intro (by kernel_rfl) ?_)
    | (refine gw_intro (fun h => ?_) (fun h => ?_) <;> (try simp only [beq_true, beq_false, Bool.not_eq_eq_eq_not, Bool.not_true, Bool.not_false, Bool.not_not, decide_eq_true_eq, decide_eq_false_iff_not, ge_iff_le, gt_iff_lt] at h)))
                refine hn _ ⟨i + 1, h, ?_, ?_, ?_, ?_, ?_, ?_, HO⟩ ?_
                · simp only [*, put_slot, ↓reduceIte]
                · simp only [*, put_slot, dem_slot, setBox_slot, ↓reduceIte, Nat.reduceEqDiff]
                · simp only [*, put_slot, dem_slot, setBox_slot, ↓reduceIte, Nat.reduceEqDiff]
                · simp only [*, put_slot, dem_slot, setBox_slot, ↓reduceIte, reduceCtorEq]
                · simp only [*, put_slot, dem_slot, setBox_slot, ↓reduceIte, Nat.reduceEqDiff]
                · simp only [*, put_room, dem_room, setBox_room, ↓reduceIte, Nat.reduceEqDiff]
                · simp only [slotI, *, put_slot, ↓reduceIte, Int.toNat_natCast]
                  omega
    · have g9 : ¬ (i : Int) < l.length := by omega
      rw [attrsG_end (by omega)] at hO'
      subst hO'
      clear hO hn hr hl hR
      repeat' (first
    | simp only [*, guardG, opG, inB, sval, stake, eats, eaters, get, ↓reduceIte, Nat.reduceLT, List.filterMap_cons, List.filterMap_nil, Option.map_some, List.contains_cons, List.contains_nil, dbin, dIntBin, List.append_nil, AVB]
    | (refine drW_intro (by kernel_rfl) ?_)
    | (refine gw_intro (fun h => ?_) (fun h => ?_) <;> (try simp only [beq_true, beq_false, Bool.not_eq_eq_eq_not, Bool.not_true, Bool.not_false, Bool.not_not, decide_eq_true_eq, decide_eq_false_iff_not, ge_iff_le, gt_iff_lt] at h)))
      refine hx _ _ ?_
      repeat' (first
    | simp only [*, guardG, opG, inB, sval, stake, eats, eaters, get, cval, cval1, croom, endQ, endR, endV, rvars, rvar, room1, ↓reduceIte, Nat.reduceLT, List.filterMap_cons, List.filterMap_nil, List.contains_cons, List.contains_nil, List.map_nil, pureB, leaf, leafN, List.append_nil, List.take_nil, vroom, notAgg, AVB]
    | (refine drW_intro (by kernel_rfl) ?_)
    | (refine gw_intro (fun h => ?_) (fun h => ?_) <;> (try simp only [beq_true, beq_false, Bool.not_eq_eq_eq_not, Bool.not_true, Bool.not_false, Bool.not_not, decide_eq_true_eq, decide_eq_false_iff_not, ge_iff_le, gt_iff_lt] at h)))
set_option maxHeartbeats 16000000 in
theorem states_L (l : List (List UInt8)) (hl : l.length ≤ 1000000) : callL Tryd.prog (ext11b chk) 62 [.list (l.map D.str)] [] = some (.bool (statesB l), [.no], []) := by
  have lN := lenM l D.str
  refine callK (m := 23) (res := [2]) (rs := [.tmp 2]) rfl Tryd.func62 rfl rfl rfl rfl rfl ?_
  have HL := Hd.mk hl
  clear hl
  obtain ⟨R, hR⟩ : ∃ R, Hd (R = statesG (l.take 0) (l.drop 0)) := ⟨_, rfl⟩
  rw [show statesB l = R from (show R = statesG (l.take 0) (l.drop 0) from hR).symm]
  repeat' (first
    | simp only [*, guardG, opG, inB, sval, stake, eats, eaters, get, cval, cval1, croom, St.taken, ↓reduceIte, Nat.reduceLT, reduceCtorEq, List.filterMap_cons, List.filterMap_nil, Option.map_some, Option.bind_none, List.getD_cons_zero, List.contains_cons, List.contains_nil, Nat.reduceBEq, List.append_nil, List.length_nil, ptrArgs, callArgs, vroom, Option.isSome_none, AVB]
    | (refine drW_intro (by kernel_rfl) ?_)
    | (refine gw_intro (fun h => ?_) (fun h => ?_) <;> (try simp only [beq_true, beq_false, Bool.not_eq_eq_eq_not, Bool.not_true, Bool.not_false, Bool.not_not, decide_eq_true_eq, decide_eq_false_iff_not, ge_iff_le, gt_iff_lt] at h)))
  refine loopH (fun st => ∃ i : Nat, i ≤ l.length ∧ st.slot 7 = .int .i64 i ∧ st.slot 5 = .list (l.map D.str) ∧ st.slot 6 = .int .i64 l.length ∧ st.slot 0 = .list (l.map D.str) ∧ st.slot 2 = .bool false ∧ st.room 2 = [] ∧ Hd (R = statesG (l.take i) (l.drop i))) (fun st => l.length - slotI st 7) ?_ ?_
  · refine ⟨0, Nat.zero_le _, ?_, ?_, ?_, ?_, ?_, ?_, hR⟩
    all_goals simp only [*, put_slot, put_room, entry_slot, ↓reduceIte, Nat.reduceEqDiff, reduceCtorEq, List.getD_cons_zero]
    all_goals rfl
  · rintro st K ⟨i, hi, g0, g1, g2, g3, g4, g5, hO⟩ hn hx hr
    have hl : l.length ≤ 1000000 := HL
    have hO' : R = statesG (l.take i) (l.drop i) := hO
    by_cases h : i < l.length
    · have g9 : (i : Int) < l.length := by omega
      have hw := wrapS i (by omega)
      obtain ⟨x, hx1⟩ := some_at h
      rw [statesG_at hx1] at hO'
      have ha := getD_map (f := D.str) hx1
      have q1 := dstate_L (chk := chk) x
      have q4 : callL Tryd.prog (ext11b chk) 72 [.list ((l.map D.str).take i), .str x] [] = some (.bool ((l.take i).contains x), [.no], []) := by
        rw [← List.map_take]
        exact contains_L (l.take i) x (by rw [List.length_take]; omega)
      have sz := szS l
      have gle : (i : Int) ≤ l.length := by omega
      generalize (l.take i).contains x = e5 at *
      generalize stS.contains x = e1 at *
      cases e1 with
      | false =>
        simp only [Bool.false_and] at hO'
        subst hO'
        clear hO hn hx hl hx1 hR sz
        repeat' (first
    | simp only [*, guardG, opG, inB, sval, stake, eats, eaters, get, cval, cval1, croom, St.taken, ↓reduceIte, Nat.reduceEqDiff, Nat.reduceLT, List.filterMap_cons, List.filterMap_nil, Option.bind_some, Option.map_some, Option.map_none, List.getElem?_cons_zero, List.getElem?_cons_succ, List.contains_cons, List.contains_nil, List.map_cons, List.map_nil, beq_self_eq_true, Nat.reduceBEq, dbin, dIntBin, okR, callG, pureB, leaf, leafN, List.all_cons, List.all_nil, List.nil_append, List.append_nil, List.length_nil, List.length_cons, dun, dcells, takes, ptrArgs, callArgs, vroom, Option.isSome_none, stepPtr, AVB]
    | (refine drW_intro (by kernel_rfl) ?_)
    | (refine gw_intro (fun h => ?_) (fun h => ?_) <;> (try simp only [beq_true, beq_false, Bool.not_eq_eq_eq_not, Bool.not_true, Bool.not_false, Bool.not_not, decide_eq_true_eq, decide_eq_false_iff_not, ge_iff_le, gt_iff_lt] at h)))
        refine hr _ ?_
        repeat' (first
    | simp only [*, put_slot, put_room, put_box, dem_box, endQ, endR, endV, rvars, rvar, room1, ↓reduceIte, List.map_nil, pureB, leaf, leafN, List.take_nil, List.range_zero, and_self, notAgg]
    | (refine drW_intro (by kernel_rfl) ?_)
    | (refine gw_intro (fun h => ?_) (fun h => ?_) <;> (try simp only [beq_true, beq_false, Bool.not_eq_eq_eq_not, Bool.not_true, Bool.not_false, Bool.not_not, decide_eq_true_eq, decide_eq_false_iff_not, ge_iff_le, gt_iff_lt] at h)))
      | true =>
        cases e5 with
        | true =>
          simp only [Bool.not_true, Bool.false_and, Bool.true_and] at hO'
          subst hO'
          clear hO hn hx hl hx1 hR
          repeat' (first
    | simp only [*, guardG, opG, inB, sval, stake, eats, eaters, get, cval, cval1, croom, St.taken, ↓reduceIte, Nat.reduceEqDiff, Nat.reduceLT, reduceCtorEq, List.filterMap_cons, List.filterMap_nil, Option.bind_some, Option.map_some, Option.map_none, List.getElem?_cons_zero, List.getElem?_cons_succ, List.contains_cons, List.contains_nil, List.map_cons, List.map_nil, beq_self_eq_true, Nat.reduceBEq, dbin, dIntBin, okR, callG, pureB, leaf, leafN, List.all_cons, List.all_nil, List.nil_append, List.append_nil, List.length_nil, List.length_cons, dun, List.drop_zero, dcells, dopt, dbound, takes, ptrArgs, callArgs, vroom, Option.isSome_none, stepPtr, List.drop_zero, AVB]
    | (refine drW_intro (by kernel_rfl) ?_)
    | (refine gw_intro (fun h => ?_) (fun h => ?_) <;> (try simp only [beq_true, beq_false, Bool.not_eq_eq_eq_not, Bool.not_true, Bool.not_false, Bool.not_not, decide_eq_true_eq, decide_eq_false_iff_not, ge_iff_le, gt_iff_lt] at h)))
          refine hr _ ?_
          repeat' (first
    | simp only [*, put_slot, put_room, put_box, dem_box, endQ, endR, endV, rvars, rvar, room1, ↓reduceIte, List.map_nil, pureB, leaf, leafN, List.take_nil, List.range_zero, and_self, notAgg]
    | (refine drW_intro (by kernel_rfl) ?_)
    | (refine gw_intro (fun h => ?_) (fun h => ?_) <;> (try simp only [beq_true, beq_false, Bool.not_eq_eq_eq_not, Bool.not_true, Bool.not_false, Bool.not_not, decide_eq_true_eq, decide_eq_false_iff_not, ge_iff_le, gt_iff_lt] at h)))
        | false =>
          simp only [Bool.not_false, Bool.true_and] at hO'
          have HO := Hd.mk hO'
          clear hO hO' hx hr hl hx1
          repeat' (first
    | simp only [*, guardG, opG, inB, sval, stake, eats, eaters, get, cval, cval1, croom, St.taken, ↓reduceIte, Nat.reduceEqDiff, Nat.reduceLT, reduceCtorEq, List.filterMap_cons, List.filterMap_nil, Option.bind_some, Option.map_some, Option.map_none, List.getElem?_cons_zero, List.getElem?_cons_succ, List.contains_cons, List.contains_nil, List.map_cons, List.map_nil, beq_self_eq_true, Nat.reduceBEq, dbin, dIntBin, okR, callG, pureB, leaf, leafN, List.all_cons, List.all_nil, List.nil_append, List.append_nil, List.length_nil, List.length_cons, dun, List.drop_zero, dcells, dopt, dbound, takes, ptrArgs, callArgs, vroom, Option.isSome_none, stepPtr, List.drop_zero, AVB]
    | (refine drW_intro (by kernel_rfl) ?_)
    | (refine gw_intro (fun h => ?_) (fun h => ?_) <;> (try simp only [beq_true, beq_false, Bool.not_eq_eq_eq_not, Bool.not_true, Bool.not_false, Bool.not_not, decide_eq_true_eq, decide_eq_false_iff_not, ge_iff_le, gt_iff_lt] at h)))
          refine hn _ ⟨i + 1, h, ?_, ?_, ?_, ?_, ?_, ?_, HO⟩ ?_
          · simp only [*, put_slot, ↓reduceIte]
          · simp only [*, put_slot, dem_slot, ↓reduceIte, Nat.reduceEqDiff]
          · simp only [*, put_slot, dem_slot, ↓reduceIte, Nat.reduceEqDiff]
          · simp only [*, put_slot, dem_slot, ↓reduceIte, reduceCtorEq]
          · simp only [*, put_slot, dem_slot, ↓reduceIte, Nat.reduceEqDiff]
          · simp only [*, put_room, dem_room, ↓reduceIte, Nat.reduceEqDiff]
          · simp only [slotI, *, put_slot, ↓reduceIte, Int.toNat_natCast]
            omega
    · have g9 : ¬ (i : Int) < l.length := by omega
      rw [statesG_end (by omega)] at hO'
      subst hO'
      clear hO hn hr hl hR
      repeat' (first
    | simp only [*, guardG, opG, inB, sval, stake, eats, eaters, get, ↓reduceIte, Nat.reduceLT, List.filterMap_cons, List.filterMap_nil, Option.map_some, List.contains_cons, List.contains_nil, dbin, dIntBin, List.append_nil, AVB]
    | (refine drW_intro (by kernel_rfl) ?_)
    | (refine gw_intro (fun h => ?_) (fun h => ?_) <;> (try simp only [beq_true, beq_false, Bool.not_eq_eq_eq_not, Bool.not_true, Bool.not_false, Bool.not_not, decide_eq_true_eq, decide_eq_false_iff_not, ge_iff_le, gt_iff_lt] at h)))
      refine hx _ _ ?_
      repeat' (first
    | simp only [*, guardG, opG, inB, sval, stake, eats, eaters, get, cval, cval1, croom, endQ, endR, endV, rvars, rvar, room1, ↓reduceIte, Nat.reduceLT, List.filterMap_cons, List.filterMap_nil, List.contains_cons, List.contains_nil, List.map_nil, pureB, leaf, leafN, List.append_nil, List.take_nil, vroom, notAgg, AVB]
    | (refine drW_intro (by kernel_rfl) ?_)
    | (refine gw_intro (fun h => ?_) (fun h => ?_) <;> (try simp only [beq_true, beq_false, Bool.not_eq_eq_eq_not, Bool.not_true, Bool.not_false, Bool.not_not, decide_eq_true_eq, decide_eq_false_iff_not, ge_iff_le, gt_iff_lt] at h)))
end Go.Av
namespace Go.Av
open Go.Proofs
variable [Ek] {chk : List D → Bool}
def kindAt (ahead : List Nd) (p : Int) : Int := match ahead[p.toNat]? with | some n => n.k | none => 0
def parOk (ahead : List Nd) (p : Int) : Bool := !(decide (p < -1)) && (!(decide ((ahead.length : Int) ≤ p)) && !(decide (0 ≤ p) && (kindAt ahead p != 1)))
def txtF (n : Nd) : Bool := n.sp == [] && (n.nm == [] && (((n.at_.length : Int) == 0) && (((n.st.length : Int) == 0) && goodB n.tx)))
def elmF (n : Nd) : Bool := n.tx == [] && (!(n.nm == []) && (goodB n.nm && (goodB n.sp && (attrsB n.at_ && statesB n.st))))
def bodyF (n : Nd) : Bool := if n.k = 1 then elmF n else if n.k = 2 then (if n.p < 0 then false else txtF n) else if n.k = 3 then txtF n else false
def nodeF (ahead : List Nd) (n : Nd) : Bool := parOk ahead n.p && bodyF n
def BigN (n : Nd) : Prop := n.at_.length ≤ 140737488355328 ∧ n.st.length ≤ 140737488355328 ∧ n.nm.length ≤ 140737488355328 ∧ n.sp.length ≤ 140737488355328 ∧ n.tx.length ≤ 140737488355328 ∧ ∀ a ∈ n.at_, BigA a
def SmallN (n : Nd) : Prop := n.at_.length ≤ 1000000 ∧ n.st.length ≤ 1000000 ∧ n.nm.length ≤ 1000000 ∧ n.sp.length ≤ 1000000 ∧ n.tx.length ≤ 1000000 ∧ ∀ a ∈ n.at_, SmallA a
theorem kind_at {ahead : List Nd} {p : Int} (h0 : 0 ≤ p) (h1 : p < ahead.length) : ∃ p' k' sp nm la ls tx, (ahead.map Nd.d).getD p.toNat .bad = .agg [.int .i64 p', .int .i64 k', .str sp, .str nm, .list la, .list ls, .str tx] ∧ kindAt ahead p = k' := by
  obtain ⟨x, hx⟩ := some_at (show p.toNat < ahead.length by omega)
  refine ⟨x.p, x.k, x.sp, x.nm, x.at_.map At.d, x.st.map .str, x.tx, getD_map (f := Nd.d) hx, ?_⟩
  unfold kindAt
  rw [hx]
set_option maxHeartbeats 16000000 in
theorem body_L (ahead : List Nd) (n : Nd) (hn : SmallN n) (h : parOk ahead n.p = true) : callL Tryd.prog (ext11b chk) 48 [.list (ahead.map Nd.d), n.d] [] = some (.bool (bodyF n), [.no], []) := by
  obtain ⟨p, k, sp, nm, la, ls, tx⟩ := n
  obtain ⟨s1, s2, s3, s4, s5, s6⟩ := hn
  have q1 := dright_L (chk := chk) nm s3
  have q2 := dright_L (chk := chk) sp s4
  have q3 := dright_L (chk := chk) tx s5
  have q4 := attrs_L (chk := chk) la s1 s6
  have q5 := states_L (chk := chk) ls s2
  have lN := lenM ahead Nd.d
  have lA := lenM la At.d
  have lS := lenM ls D.str
  clear s1 s2 s3 s4 s5 s6
  unfold parOk at h
  simp only [Bool.and_eq_true, Bool.not_eq_eq_eq_not, Bool.not_true, decide_eq_false_iff_not] at h
  obtain ⟨h1, h2, h3⟩ := h
  simp only [bodyF, elmF, txtF, Nd.d]
  generalize goodB nm = e1 at *
  generalize goodB sp = e2 at *
  generalize goodB tx = e3 at *
  generalize attrsB la = e4 at *
  generalize statesB ls = e5 at *
  generalize la.map At.d = LA at *
  generalize ls.map D.str = LS at *
  by_cases h0 : 0 ≤ p
  · obtain ⟨p', k', sp', nm', la', ls', tx', ha, hk⟩ := kind_at (ahead := ahead) h0 (by omega)
    rw [hk] at h3
    have h5 : ¬ p < 0 := by omega
    have h4 : (k' != 1) = false := by simpa [h0] using h3
    clear h3 hk
    generalize ahead.map Nd.d = AH at *
    have gp : p < AH.length := by omega
    have h2' : ¬ (AH.length : Int) ≤ p := by omega
    clear lN h2
    by_cases k1 : k = 1
    · subst k1
      cases c1 : (tx == []) with
      | false =>
        refine callK (m := 93) (res := [4]) (rs := [.tmp 4]) rfl Tryd.func48 rfl rfl rfl rfl rfl ?_
        repeat' (first
    | simp only [*, guardG, opG, inB, sval, stake, eats, eaters, get, cval, cval1, croom, St.taken, endQ, endR, endV, rvars, rvar, room1, ↓reduceIte, Nat.reduceEqDiff, Nat.reduceLT, reduceCtorEq, List.filterMap_cons, List.filterMap_nil, Option.bind_some, Option.map_some, Option.bind_none, List.getElem?_cons_zero, List.getElem?_cons_succ, List.getD_cons_zero, List.getD_cons_succ, List.contains_cons, List.contains_nil, List.map_nil, beq_self_eq_true, Nat.reduceBEq, dbin, dIntBin, okR, callG, pureB, leaf, leafN, List.all_cons, List.all_nil, List.nil_append, List.append_nil, List.take_nil, List.length_nil, List.length_cons, List.getElem?_nil, dcells, Nat.reduceAdd, stepBox, ge_iff_le, dStrBin, takes, ptrArgs, callArgs, given, oroom, vroom, Option.isSome_none, stepTake, stepPtr, notAgg, ite_self, AVB]
    | (refine drW_intro (by kernel_rfl) ?_)
    | (refine gw_intro (fun h => ?_) (fun h => ?_) <;> (try simp only [beq_true, beq_false, Bool.not_eq_eq_eq_not, Bool.not_true, Bool.not_false, Bool.not_not, decide_eq_true_eq, decide_eq_false_iff_not, ge_iff_le, gt_iff_lt] at h)))
      | true =>
        cases c2 : (nm == []) with
        | true =>
          refine callK (m := 93) (res := [4]) (rs := [.tmp 4]) rfl Tryd.func48 rfl rfl rfl rfl rfl ?_
          repeat' (first
    | simp only [*, guardG, opG, inB, sval, stake, eats, eaters, get, cval, cval1, croom, St.taken, endQ, endR, endV, rvars, rvar, room1, ↓reduceIte, Nat.reduceEqDiff, Nat.reduceLT, reduceCtorEq, List.filterMap_cons, List.filterMap_nil, Option.bind_some, Option.map_some, Option.bind_none, List.getElem?_cons_zero, List.getElem?_cons_succ, List.getD_cons_zero, List.getD_cons_succ, List.contains_cons, List.contains_nil, List.map_nil, beq_self_eq_true, Nat.reduceBEq, dbin, dIntBin, okR, callG, pureB, leaf, leafN, List.all_cons, List.all_nil, List.nil_append, List.append_nil, List.take_nil, List.length_nil, List.length_cons, List.getElem?_nil, dcells, Nat.reduceAdd, stepBox, ge_iff_le, dStrBin, takes, ptrArgs, callArgs, given, oroom, vroom, Option.isSome_none, stepTake, stepPtr, notAgg, ite_self, AVB]
    | (refine drW_intro (by kernel_rfl) ?_)
    | (refine gw_intro (fun h => ?_) (fun h => ?_) <;> (try simp only [beq_true, beq_false, Bool.not_eq_eq_eq_not, Bool.not_true, Bool.not_false, Bool.not_not, decide_eq_true_eq, decide_eq_false_iff_not, ge_iff_le, gt_iff_lt] at h)))
        | false =>
          cases e1 with
          | false =>
            refine callK (m := 93) (res := [4]) (rs := [.tmp 4]) rfl Tryd.func48 rfl rfl rfl rfl rfl ?_
            repeat' (first
    | simp only [*, guardG, opG, inB, sval, stake, eats, eaters, get, cval, cval1, croom, St.taken, endQ, endR, endV, rvars, rvar, room1, ↓reduceIte, Nat.reduceEqDiff, Nat.reduceLT, reduceCtorEq, List.filterMap_cons, List.filterMap_nil, Option.bind_some, Option.map_some, Option.bind_none, List.getElem?_cons_zero, List.getElem?_cons_succ, List.getD_cons_zero, List.getD_cons_succ, List.contains_cons, List.contains_nil, List.map_cons, List.map_nil, beq_self_eq_true, Nat.reduceBEq, dbin, dIntBin, okR, callG, pureB, leaf, leafN, List.all_cons, List.all_nil, List.nil_append, List.append_nil, List.take_nil, List.length_nil, List.length_cons, List.getElem?_nil, dcells, Nat.reduceAdd, stepBox, ge_iff_le, dStrBin, takes, ptrArgs, callArgs, given, oroom, vroom, Option.isSome_none, stepTake, stepPtr, notAgg, ite_self, AVB]
    | (refine drW_intro (by kernel_rfl) ?_)
    | (refine gw_intro (fun h => ?_) (fun h => ?_) <;> (try simp only [beq_true, beq_false, Bool.not_eq_eq_eq_not, Bool.not_true, Bool.not_false, Bool.not_not, decide_eq_true_eq, decide_eq_false_iff_not, ge_iff_le, gt_iff_lt] at h)))
          | true =>
            cases e2 with
            | false =>
              refine callK (m := 93) (res := [4]) (rs := [.tmp 4]) rfl Tryd.func48 rfl rfl rfl rfl rfl ?_
              repeat' (first
    | simp only [*, guardG, opG, inB, sval, stake, eats, eaters, get, cval, cval1, croom, St.taken, endQ, endR, endV, rvars, rvar, room1, ↓reduceIte, Nat.reduceEqDiff, Nat.reduceLT, reduceCtorEq, List.filterMap_cons, List.filterMap_nil, Option.bind_some, Option.map_some, Option.bind_none, List.getElem?_cons_zero, List.getElem?_cons_succ, List.getD_cons_zero, List.getD_cons_succ, List.contains_cons, List.contains_nil, List.map_cons, List.map_nil, beq_self_eq_true, Nat.reduceBEq, dbin, dIntBin, okR, callG, pureB, leaf, leafN, List.all_cons, List.all_nil, List.nil_append, List.append_nil, List.take_nil, List.length_nil, List.length_cons, List.getElem?_nil, dcells, Nat.reduceAdd, stepBox, ge_iff_le, dStrBin, takes, ptrArgs, callArgs, given, oroom, vroom, Option.isSome_none, stepTake, stepPtr, notAgg, ite_self, AVB]
    | (refine drW_intro (by kernel_rfl) ?_)
    | (refine gw_intro (fun h => ?_) (fun h => ?_) <;> (try simp only [beq_true, beq_false, Bool.not_eq_eq_eq_not, Bool.not_true, Bool.not_false, Bool.not_not, decide_eq_true_eq, decide_eq_false_iff_not, ge_iff_le, gt_iff_lt] at h)))
            | true =>
              cases e4 with
              | false =>
                refine callK (m := 93) (res := [4]) (rs := [.tmp 4]) rfl Tryd.func48 rfl rfl rfl rfl rfl ?_
                repeat' (first
    | simp only [*, guardG, opG, inB, sval, stake, eats, eaters, get, cval, cval1, croom, St.taken, endQ, endR, endV, rvars, rvar, room1, ↓reduceIte, Nat.reduceEqDiff, Nat.reduceLT, reduceCtorEq, List.filterMap_cons, List.filterMap_nil, Option.bind_some, Option.map_some, Option.bind_none, List.getElem?_cons_zero, List.getElem?_cons_succ, List.getD_cons_zero, List.getD_cons_succ, List.contains_cons, List.contains_nil, List.map_cons, List.map_nil, beq_self_eq_true, Nat.reduceBEq, dbin, dIntBin, okR, callG, pureB, leaf, leafN, List.all_cons, List.all_nil, List.nil_append, List.append_nil, List.take_nil, List.length_nil, List.length_cons, List.getElem?_nil, dcells, Nat.reduceAdd, stepBox, ge_iff_le, dStrBin, takes, ptrArgs, callArgs, given, oroom, vroom, Option.isSome_none, stepTake, stepPtr, notAgg, ite_self, AVB]
    | (refine drW_intro (by kernel_rfl) ?_)
    | (refine gw_intro (fun h => ?_) (fun h => ?_) <;> (try simp only [beq_true, beq_false, Bool.not_eq_eq_eq_not, Bool.not_true, Bool.not_false, Bool.not_not, decide_eq_true_eq, decide_eq_false_iff_not, ge_iff_le, gt_iff_lt] at h)))
              | true =>
                refine callK (m := 93) (res := [4]) (rs := [.tmp 4]) rfl Tryd.func48 rfl rfl rfl rfl rfl ?_
                repeat' (first
    | simp only [*, guardG, opG, inB, sval, stake, eats, eaters, get, cval, cval1, croom, St.taken, endQ, endR, endV, rvars, rvar, room1, ↓reduceIte, Nat.reduceEqDiff, Nat.reduceLT, reduceCtorEq, List.filterMap_cons, List.filterMap_nil, Option.bind_some, Option.map_some, Option.bind_none, List.getElem?_cons_zero, List.getElem?_cons_succ, List.getD_cons_zero, List.getD_cons_succ, List.contains_cons, List.contains_nil, List.map_cons, List.map_nil, beq_self_eq_true, Nat.reduceBEq, dbin, dIntBin, okR, callG, pureB, leaf, leafN, List.all_cons, List.all_nil, List.nil_append, List.append_nil, List.take_nil, List.length_nil, List.length_cons, List.getElem?_nil, dcells, Nat.reduceAdd, stepBox, ge_iff_le, dStrBin, takes, ptrArgs, callArgs, given, oroom, vroom, Option.isSome_none, stepTake, stepPtr, notAgg, ite_self, AVB]
    | (refine drW_intro (by kernel_rfl) ?_)
    | (refine gw_intro (fun h => ?_) (fun h => ?_) <;> (try simp only [beq_true, beq_false, Bool.not_eq_eq_eq_not, Bool.not_true, Bool.not_false, Bool.not_not, decide_eq_true_eq, decide_eq_false_iff_not, ge_iff_le, gt_iff_lt] at h)))
    · by_cases k2 : k = 2
      · subst k2
        cases c1 : (sp == []) with
        | false =>
          refine callK (m := 93) (res := [4]) (rs := [.tmp 4]) rfl Tryd.func48 rfl rfl rfl rfl rfl ?_
          repeat' (first
    | simp only [*, guardG, opG, inB, sval, stake, eats, eaters, get, cval, cval1, croom, St.taken, endQ, endR, endV, rvars, rvar, room1, ↓reduceIte, Nat.reduceEqDiff, Nat.reduceLT, reduceCtorEq, List.filterMap_cons, List.filterMap_nil, Option.bind_some, Option.map_some, Option.bind_none, List.getElem?_cons_zero, List.getElem?_cons_succ, List.getD_cons_zero, List.getD_cons_succ, List.contains_cons, List.contains_nil, List.map_nil, beq_self_eq_true, Nat.reduceBEq, dbin, dIntBin, okR, callG, pureB, leaf, leafN, List.all_cons, List.all_nil, List.nil_append, List.append_nil, List.take_nil, List.length_nil, List.length_cons, List.getElem?_nil, dcells, Nat.reduceAdd, stepBox, ge_iff_le, dStrBin, Int.reduceBEq, takes, ptrArgs, callArgs, given, oroom, vroom, Option.isSome_none, stepTake, stepPtr, notAgg, ite_self, AVB]
    | (refine drW_intro (by kernel_rfl) ?_)
    | (refine gw_intro (fun h => ?_) (fun h => ?_) <;> (try simp only [beq_true, beq_false, Bool.not_eq_eq_eq_not, Bool.not_true, Bool.not_false, Bool.not_not, decide_eq_true_eq, decide_eq_false_iff_not, ge_iff_le, gt_iff_lt] at h)))
        | true =>
          cases c2 : (nm == []) with
          | false =>
            refine callK (m := 93) (res := [4]) (rs := [.tmp 4]) rfl Tryd.func48 rfl rfl rfl rfl rfl ?_
            repeat' (first
    | simp only [*, guardG, opG, inB, sval, stake, eats, eaters, get, cval, cval1, croom, St.taken, endQ, endR, endV, rvars, rvar, room1, ↓reduceIte, Nat.reduceEqDiff, Nat.reduceLT, reduceCtorEq, List.filterMap_cons, List.filterMap_nil, Option.bind_some, Option.map_some, Option.bind_none, List.getElem?_cons_zero, List.getElem?_cons_succ, List.getD_cons_zero, List.getD_cons_succ, List.contains_cons, List.contains_nil, List.map_nil, beq_self_eq_true, Nat.reduceBEq, dbin, dIntBin, okR, callG, pureB, leaf, leafN, List.all_cons, List.all_nil, List.nil_append, List.append_nil, List.take_nil, List.length_nil, List.length_cons, List.getElem?_nil, dcells, Nat.reduceAdd, stepBox, ge_iff_le, dStrBin, Int.reduceBEq, takes, ptrArgs, callArgs, given, oroom, vroom, Option.isSome_none, stepTake, stepPtr, notAgg, ite_self, AVB]
    | (refine drW_intro (by kernel_rfl) ?_)
    | (refine gw_intro (fun h => ?_) (fun h => ?_) <;> (try simp only [beq_true, beq_false, Bool.not_eq_eq_eq_not, Bool.not_true, Bool.not_false, Bool.not_not, decide_eq_true_eq, decide_eq_false_iff_not, ge_iff_le, gt_iff_lt] at h)))
          | true =>
            cases c3 : ((la.length : Int) == 0) with
            | false =>
              refine callK (m := 93) (res := [4]) (rs := [.tmp 4]) rfl Tryd.func48 rfl rfl rfl rfl rfl ?_
              repeat' (first
    | simp only [*, guardG, opG, inB, sval, stake, eats, eaters, get, cval, cval1, croom, St.taken, endQ, endR, endV, rvars, rvar, room1, ↓reduceIte, Nat.reduceEqDiff, Nat.reduceLT, reduceCtorEq, List.filterMap_cons, List.filterMap_nil, Option.bind_some, Option.map_some, Option.bind_none, List.getElem?_cons_zero, List.getElem?_cons_succ, List.getD_cons_zero, List.getD_cons_succ, List.contains_cons, List.contains_nil, List.map_nil, beq_self_eq_true, Nat.reduceBEq, dbin, dIntBin, okR, callG, pureB, leaf, leafN, List.all_cons, List.all_nil, List.nil_append, List.append_nil, List.take_nil, List.length_nil, List.length_cons, List.getElem?_nil, dcells, Nat.reduceAdd, stepBox, ge_iff_le, dStrBin, Int.reduceBEq, takes, ptrArgs, callArgs, given, oroom, vroom, Option.isSome_none, stepTake, stepPtr, notAgg, ite_self, AVB]
    | (refine drW_intro (by kernel_rfl) ?_)
    | (refine gw_intro (fun h => ?_) (fun h => ?_) <;> (try simp only [beq_true, beq_false, Bool.not_eq_eq_eq_not, Bool.not_true, Bool.not_false, Bool.not_not, decide_eq_true_eq, decide_eq_false_iff_not, ge_iff_le, gt_iff_lt] at h)))
            | true =>
              cases c4 : ((ls.length : Int) == 0) with
              | false =>
                refine callK (m := 93) (res := [4]) (rs := [.tmp 4]) rfl Tryd.func48 rfl rfl rfl rfl rfl ?_
                repeat' (first
    | simp only [*, guardG, opG, inB, sval, stake, eats, eaters, get, cval, cval1, croom, St.taken, endQ, endR, endV, rvars, rvar, room1, ↓reduceIte, Nat.reduceEqDiff, Nat.reduceLT, reduceCtorEq, List.filterMap_cons, List.filterMap_nil, Option.bind_some, Option.map_some, Option.bind_none, List.getElem?_cons_zero, List.getElem?_cons_succ, List.getD_cons_zero, List.getD_cons_succ, List.contains_cons, List.contains_nil, List.map_nil, beq_self_eq_true, Nat.reduceBEq, dbin, dIntBin, okR, callG, pureB, leaf, leafN, List.all_cons, List.all_nil, List.nil_append, List.append_nil, List.take_nil, List.length_nil, List.length_cons, List.getElem?_nil, dcells, Nat.reduceAdd, stepBox, ge_iff_le, dStrBin, Int.reduceBEq, takes, ptrArgs, callArgs, given, oroom, vroom, Option.isSome_none, stepTake, stepPtr, notAgg, ite_self, AVB]
    | (refine drW_intro (by kernel_rfl) ?_)
    | (refine gw_intro (fun h => ?_) (fun h => ?_) <;> (try simp only [beq_true, beq_false, Bool.not_eq_eq_eq_not, Bool.not_true, Bool.not_false, Bool.not_not, decide_eq_true_eq, decide_eq_false_iff_not, ge_iff_le, gt_iff_lt] at h)))
              | true =>
                refine callK (m := 93) (res := [4]) (rs := [.tmp 4]) rfl Tryd.func48 rfl rfl rfl rfl rfl ?_
                repeat' (first
    | simp only [*, guardG, opG, inB, sval, stake, eats, eaters, get, cval, cval1, croom, St.taken, endQ, endR, endV, rvars, rvar, room1, ↓reduceIte, Nat.reduceEqDiff, Nat.reduceLT, reduceCtorEq, List.filterMap_cons, List.filterMap_nil, Option.bind_some, Option.map_some, Option.bind_none, List.getElem?_cons_zero, List.getElem?_cons_succ, List.getD_cons_zero, List.getD_cons_succ, List.contains_cons, List.contains_nil, List.map_cons, List.map_nil, beq_self_eq_true, Nat.reduceBEq, dbin, dIntBin, okR, callG, pureB, leaf, leafN, List.all_cons, List.all_nil, List.nil_append, List.append_nil, List.take_nil, List.length_nil, List.length_cons, List.getElem?_nil, dcells, Nat.reduceAdd, stepBox, ge_iff_le, dStrBin, Int.reduceBEq, takes, ptrArgs, callArgs, given, oroom, vroom, Option.isSome_none, stepTake, stepPtr, notAgg, ite_self, AVB]
    | (refine drW_intro (by kernel_rfl) ?_)
    | (refine gw_intro (fun h => ?_) (fun h => ?_) <;> (try simp only [beq_true, beq_false, Bool.not_eq_eq_eq_not, Bool.not_true, Bool.not_false, Bool.not_not, decide_eq_true_eq, decide_eq_false_iff_not, ge_iff_le, gt_iff_lt] at h)))
      · by_cases k3 : k = 3
        · subst k3
          cases c1 : (sp == []) with
          | false =>
            refine callK (m := 93) (res := [4]) (rs := [.tmp 4]) rfl Tryd.func48 rfl rfl rfl rfl rfl ?_
            repeat' (first
    | simp only [*, guardG, opG, inB, sval, stake, eats, eaters, get, cval, cval1, croom, St.taken, endQ, endR, endV, rvars, rvar, room1, ↓reduceIte, Nat.reduceEqDiff, Nat.reduceLT, reduceCtorEq, List.filterMap_cons, List.filterMap_nil, Option.bind_some, Option.map_some, Option.bind_none, List.getElem?_cons_zero, List.getElem?_cons_succ, List.getD_cons_zero, List.getD_cons_succ, List.contains_cons, List.contains_nil, List.map_nil, beq_self_eq_true, Nat.reduceBEq, dbin, dIntBin, okR, callG, pureB, leaf, leafN, List.all_cons, List.all_nil, List.nil_append, List.append_nil, List.take_nil, List.length_nil, List.length_cons, List.getElem?_nil, dcells, Nat.reduceAdd, stepBox, ge_iff_le, dStrBin, Int.reduceBEq, takes, ptrArgs, callArgs, given, oroom, vroom, Option.isSome_none, stepTake, stepPtr, notAgg, ite_self, AVB]
    | (refine drW_intro (by kernel_rfl) ?_)
    | (refine gw_intro (fun h => ?_) (fun h => ?_) <;> (try simp only [beq_true, beq_false, Bool.not_eq_eq_eq_not, Bool.not_true, Bool.not_false, Bool.not_not, decide_eq_true_eq, decide_eq_false_iff_not, ge_iff_le, gt_iff_lt] at h)))
          | true =>
            cases c2 : (nm == []) with
            | false =>
              refine callK (m := 93) (res := [4]) (rs := [.tmp 4]) rfl Tryd.func48 rfl rfl rfl rfl rfl ?_
              repeat' (first
    | simp only [*, guardG, opG, inB, sval, stake, eats, eaters, get, cval, cval1, croom, St.taken, endQ, endR, endV, rvars, rvar, room1, ↓reduceIte, Nat.reduceEqDiff, Nat.reduceLT, reduceCtorEq, List.filterMap_cons, List.filterMap_nil, Option.bind_some, Option.map_some, Option.bind_none, List.getElem?_cons_zero, List.getElem?_cons_succ, List.getD_cons_zero, List.getD_cons_succ, List.contains_cons, List.contains_nil, List.map_nil, beq_self_eq_true, Nat.reduceBEq, dbin, dIntBin, okR, callG, pureB, leaf, leafN, List.all_cons, List.all_nil, List.nil_append, List.append_nil, List.take_nil, List.length_nil, List.length_cons, List.getElem?_nil, dcells, Nat.reduceAdd, stepBox, ge_iff_le, dStrBin, Int.reduceBEq, takes, ptrArgs, callArgs, given, oroom, vroom, Option.isSome_none, stepTake, stepPtr, notAgg, ite_self, AVB]
    | (refine drW_intro (by kernel_rfl) ?_)
    | (refine gw_intro (fun h => ?_) (fun h => ?_) <;> (try simp only [beq_true, beq_false, Bool.not_eq_eq_eq_not, Bool.not_true, Bool.not_false, Bool.not_not, decide_eq_true_eq, decide_eq_false_iff_not, ge_iff_le, gt_iff_lt] at h)))
            | true =>
              cases c3 : ((la.length : Int) == 0) with
              | false =>
                refine callK (m := 93) (res := [4]) (rs := [.tmp 4]) rfl Tryd.func48 rfl rfl rfl rfl rfl ?_
                repeat' (first
    | simp only [*, guardG, opG, inB, sval, stake, eats, eaters, get, cval, cval1, croom, St.taken, endQ, endR, endV, rvars, rvar, room1, ↓reduceIte, Nat.reduceEqDiff, Nat.reduceLT, reduceCtorEq, List.filterMap_cons, List.filterMap_nil, Option.bind_some, Option.map_some, Option.bind_none, List.getElem?_cons_zero, List.getElem?_cons_succ, List.getD_cons_zero, List.getD_cons_succ, List.contains_cons, List.contains_nil, List.map_nil, beq_self_eq_true, Nat.reduceBEq, dbin, dIntBin, okR, callG, pureB, leaf, leafN, List.all_cons, List.all_nil, List.nil_append, List.append_nil, List.take_nil, List.length_nil, List.length_cons, List.getElem?_nil, dcells, Nat.reduceAdd, stepBox, ge_iff_le, dStrBin, Int.reduceBEq, takes, ptrArgs, callArgs, given, oroom, vroom, Option.isSome_none, stepTake, stepPtr, notAgg, ite_self, AVB]
    | (refine drW_intro (by kernel_rfl) ?_)
    | (refine gw_intro (fun h => ?_) (fun h => ?_) <;> (try simp only [beq_true, beq_false, Bool.not_eq_eq_eq_not, Bool.not_true, Bool.not_false, Bool.not_not, decide_eq_true_eq, decide_eq_false_iff_not, ge_iff_le, gt_iff_lt] at h)))
              | true =>
                cases c4 : ((ls.length : Int) == 0) with
                | false =>
                  refine callK (m := 93) (res := [4]) (rs := [.tmp 4]) rfl Tryd.func48 rfl rfl rfl rfl rfl ?_
                  repeat' (first
    | simp only [*, guardG, opG, inB, sval, stake, eats, eaters, get, cval, cval1, croom, St.taken, endQ, endR, endV, rvars, rvar, room1, ↓reduceIte, Nat.reduceEqDiff, Nat.reduceLT, reduceCtorEq, List.filterMap_cons, List.filterMap_nil, Option.bind_some, Option.map_some, Option.bind_none, List.getElem?_cons_zero, List.getElem?_cons_succ, List.getD_cons_zero, List.getD_cons_succ, List.contains_cons, List.contains_nil, List.map_nil, beq_self_eq_true, Nat.reduceBEq, dbin, dIntBin, okR, callG, pureB, leaf, leafN, List.all_cons, List.all_nil, List.nil_append, List.append_nil, List.take_nil, List.length_nil, List.length_cons, List.getElem?_nil, dcells, Nat.reduceAdd, stepBox, ge_iff_le, dStrBin, Int.reduceBEq, takes, ptrArgs, callArgs, given, oroom, vroom, Option.isSome_none, stepTake, stepPtr, notAgg, ite_self, AVB]
    | (refine drW_intro (by kernel_rfl) ?_)
    | (refine gw_intro (fun h => ?_) (fun h => ?_) <;> (try simp only [beq_true, beq_false, Bool.not_eq_eq_eq_not, Bool.not_true, Bool.not_false, Bool.not_not, decide_eq_true_eq, decide_eq_false_iff_not, ge_iff_le, gt_iff_lt] at h)))
                | true =>
                  refine callK (m := 93) (res := [4]) (rs := [.tmp 4]) rfl Tryd.func48 rfl rfl rfl rfl rfl ?_
                  repeat' (first
    | simp only [*, guardG, opG, inB, sval, stake, eats, eaters, get, cval, cval1, croom, St.taken, endQ, endR, endV, rvars, rvar, room1, ↓reduceIte, Nat.reduceEqDiff, Nat.reduceLT, reduceCtorEq, List.filterMap_cons, List.filterMap_nil, Option.bind_some, Option.map_some, Option.bind_none, List.getElem?_cons_zero, List.getElem?_cons_succ, List.getD_cons_zero, List.getD_cons_succ, List.contains_cons, List.contains_nil, List.map_cons, List.map_nil, beq_self_eq_true, Nat.reduceBEq, dbin, dIntBin, okR, callG, pureB, leaf, leafN, List.all_cons, List.all_nil, List.nil_append, List.append_nil, List.take_nil, List.length_nil, List.length_cons, List.getElem?_nil, dcells, Nat.reduceAdd, stepBox, ge_iff_le, dStrBin, Int.reduceBEq, takes, ptrArgs, callArgs, given, oroom, vroom, Option.isSome_none, stepTake, stepPtr, notAgg, ite_self, AVB]
    | (refine drW_intro (by kernel_rfl) ?_)
    | (refine gw_intro (fun h => ?_) (fun h => ?_) <;> (try simp only [beq_true, beq_false, Bool.not_eq_eq_eq_not, Bool.not_true, Bool.not_false, Bool.not_not, decide_eq_true_eq, decide_eq_false_iff_not, ge_iff_le, gt_iff_lt] at h)))
        · have b1 : (k == 1) = false := by simpa using k1
          have b2 : (k == 2) = false := by simpa using k2
          have b3 : (k == 3) = false := by simpa using k3
          refine callK (m := 93) (res := [4]) (rs := [.tmp 4]) rfl Tryd.func48 rfl rfl rfl rfl rfl ?_
          repeat' (first
    | simp only [*, guardG, opG, inB, sval, stake, eats, eaters, get, cval, cval1, croom, St.taken, endQ, endR, endV, rvars, rvar, room1, ↓reduceIte, Nat.reduceEqDiff, Nat.reduceLT, reduceCtorEq, List.filterMap_cons, List.filterMap_nil, Option.bind_some, Option.map_some, Option.bind_none, List.getElem?_cons_zero, List.getElem?_cons_succ, List.getD_cons_zero, List.getD_cons_succ, List.contains_cons, List.contains_nil, List.map_nil, beq_self_eq_true, Nat.reduceBEq, dbin, dIntBin, okR, callG, pureB, leaf, leafN, List.all_cons, List.all_nil, List.append_nil, List.take_nil, List.length_nil, List.length_cons, List.getElem?_nil, dcells, Nat.reduceAdd, stepBox, ge_iff_le, dStrBin, takes, ptrArgs, callArgs, given, oroom, vroom, Option.isSome_none, stepTake, stepPtr, notAgg, ite_self, AVB]
    | (refine drW_intro (by kernel_rfl) ?_)
    | (refine gw_intro (fun h => ?_) (fun h => ?_) <;> (try simp only [beq_true, beq_false, Bool.not_eq_eq_eq_not, Bool.not_true, Bool.not_false, Bool.not_not, decide_eq_true_eq, decide_eq_false_iff_not, ge_iff_le, gt_iff_lt] at h)))
  · have h5 : p < 0 := by omega
    clear h3
    generalize ahead.map Nd.d = AH at *
    have h2' : ¬ (AH.length : Int) ≤ p := by omega
    clear lN h2
    by_cases k1 : k = 1
    · subst k1
      cases c1 : (tx == []) with
      | false =>
        refine callK (m := 93) (res := [4]) (rs := [.tmp 4]) rfl Tryd.func48 rfl rfl rfl rfl rfl ?_
        repeat' (first
    | simp only [*, guardG, opG, inB, sval, stake, eats, eaters, get, cval, cval1, croom, St.taken, endQ, endR, endV, rvars, rvar, room1, ↓reduceIte, Nat.reduceEqDiff, Nat.reduceLT, reduceCtorEq, List.filterMap_cons, List.filterMap_nil, Option.bind_some, Option.map_some, Option.bind_none, List.getElem?_cons_zero, List.getElem?_cons_succ, List.getD_cons_zero, List.getD_cons_succ, List.contains_cons, List.contains_nil, List.map_nil, beq_self_eq_true, Nat.reduceBEq, dbin, dIntBin, okR, callG, pureB, leaf, leafN, List.all_cons, List.all_nil, List.nil_append, List.append_nil, List.take_nil, List.length_nil, List.length_cons, List.getElem?_nil, dcells, Nat.reduceAdd, stepBox, ge_iff_le, dStrBin, takes, ptrArgs, callArgs, given, oroom, vroom, Option.isSome_none, stepTake, stepPtr, notAgg, ite_self, AVB]
    | (refine drW_intro (by kernel_rfl) ?_)
    | (refine gw_intro (fun h => ?_) (fun h => ?_) <;> (try simp only [beq_true, beq_false, Bool.not_eq_eq_eq_not, Bool.not_true, Bool.not_false, Bool.not_not, decide_eq_true_eq, decide_eq_false_iff_not, ge_iff_le, gt_iff_lt] at h)))
      | true =>
        cases c2 : (nm == []) with
        | true =>
          refine callK (m := 93) (res := [4]) (rs := [.tmp 4]) rfl Tryd.func48 rfl rfl rfl rfl rfl ?_
          repeat' (first
    | simp only [*, guardG, opG, inB, sval, stake, eats, eaters, get, cval, cval1, croom, St.taken, endQ, endR, endV, rvars, rvar, room1, ↓reduceIte, Nat.reduceEqDiff, Nat.reduceLT, reduceCtorEq, List.filterMap_cons, List.filterMap_nil, Option.bind_some, Option.map_some, Option.bind_none, List.getElem?_cons_zero, List.getElem?_cons_succ, List.getD_cons_zero, List.getD_cons_succ, List.contains_cons, List.contains_nil, List.map_nil, beq_self_eq_true, Nat.reduceBEq, dbin, dIntBin, okR, callG, pureB, leaf, leafN, List.all_cons, List.all_nil, List.nil_append, List.append_nil, List.take_nil, List.length_nil, List.length_cons, List.getElem?_nil, dcells, Nat.reduceAdd, stepBox, ge_iff_le, dStrBin, takes, ptrArgs, callArgs, given, oroom, vroom, Option.isSome_none, stepTake, stepPtr, notAgg, ite_self, AVB]
    | (refine drW_intro (by kernel_rfl) ?_)
    | (refine gw_intro (fun h => ?_) (fun h => ?_) <;> (try simp only [beq_true, beq_false, Bool.not_eq_eq_eq_not, Bool.not_true, Bool.not_false, Bool.not_not, decide_eq_true_eq, decide_eq_false_iff_not, ge_iff_le, gt_iff_lt] at h)))
        | false =>
          cases e1 with
          | false =>
            refine callK (m := 93) (res := [4]) (rs := [.tmp 4]) rfl Tryd.func48 rfl rfl rfl rfl rfl ?_
            repeat' (first
    | simp only [*, guardG, opG, inB, sval, stake, eats, eaters, get, cval, cval1, croom, St.taken, endQ, endR, endV, rvars, rvar, room1, ↓reduceIte, Nat.reduceEqDiff, Nat.reduceLT, reduceCtorEq, List.filterMap_cons, List.filterMap_nil, Option.bind_some, Option.map_some, Option.bind_none, List.getElem?_cons_zero, List.getElem?_cons_succ, List.getD_cons_zero, List.getD_cons_succ, List.contains_cons, List.contains_nil, List.map_cons, List.map_nil, beq_self_eq_true, Nat.reduceBEq, dbin, dIntBin, okR, callG, pureB, leaf, leafN, List.all_cons, List.all_nil, List.nil_append, List.append_nil, List.take_nil, List.length_nil, List.length_cons, List.getElem?_nil, dcells, Nat.reduceAdd, stepBox, ge_iff_le, dStrBin, takes, ptrArgs, callArgs, given, oroom, vroom, Option.isSome_none, stepTake, stepPtr, notAgg, ite_self, AVB]
    | (refine drW_intro (by kernel_rfl) ?_)
    | (refine gw_intro (fun h => ?_) (fun h => ?_) <;> (try simp only [beq_true, beq_false, Bool.not_eq_eq_eq_not, Bool.not_true, Bool.not_false, Bool.not_not, decide_eq_true_eq, decide_eq_false_iff_not, ge_iff_le, gt_iff_lt] at h)))
          | true =>
            cases e2 with
            | false =>
              refine callK (m := 93) (res := [4]) (rs := [.tmp 4]) rfl Tryd.func48 rfl rfl rfl rfl rfl ?_
              repeat' (first
    | simp only [*, guardG, opG, inB, sval, stake, eats, eaters, get, cval, cval1, croom, St.taken, endQ, endR, endV, rvars, rvar, room1, ↓reduceIte, Nat.reduceEqDiff, Nat.reduceLT, reduceCtorEq, List.filterMap_cons, List.filterMap_nil, Option.bind_some, Option.map_some, Option.bind_none, List.getElem?_cons_zero, List.getElem?_cons_succ, List.getD_cons_zero, List.getD_cons_succ, List.contains_cons, List.contains_nil, List.map_cons, List.map_nil, beq_self_eq_true, Nat.reduceBEq, dbin, dIntBin, okR, callG, pureB, leaf, leafN, List.all_cons, List.all_nil, List.nil_append, List.append_nil, List.take_nil, List.length_nil, List.length_cons, List.getElem?_nil, dcells, Nat.reduceAdd, stepBox, ge_iff_le, dStrBin, takes, ptrArgs, callArgs, given, oroom, vroom, Option.isSome_none, stepTake, stepPtr, notAgg, ite_self, AVB]
    | (refine drW_intro (by kernel_rfl) ?_)
    | (refine gw_intro (fun h => ?_) (fun h => ?_) <;> (try simp only [beq_true, beq_false, Bool.not_eq_eq_eq_not, Bool.not_true, Bool.not_false, Bool.not_not, decide_eq_true_eq, decide_eq_false_iff_not, ge_iff_le, gt_iff_lt] at h)))
            | true =>
              cases e4 with
              | false =>
                refine callK (m := 93) (res := [4]) (rs := [.tmp 4]) rfl Tryd.func48 rfl rfl rfl rfl rfl ?_
                repeat' (first
    | simp only [*, guardG, opG, inB, sval, stake, eats, eaters, get, cval, cval1, croom, St.taken, endQ, endR, endV, rvars, rvar, room1, ↓reduceIte, Nat.reduceEqDiff, Nat.reduceLT, reduceCtorEq, List.filterMap_cons, List.filterMap_nil, Option.bind_some, Option.map_some, Option.bind_none, List.getElem?_cons_zero, List.getElem?_cons_succ, List.getD_cons_zero, List.getD_cons_succ, List.contains_cons, List.contains_nil, List.map_cons, List.map_nil, beq_self_eq_true, Nat.reduceBEq, dbin, dIntBin, okR, callG, pureB, leaf, leafN, List.all_cons, List.all_nil, List.nil_append, List.append_nil, List.take_nil, List.length_nil, List.length_cons, List.getElem?_nil, dcells, Nat.reduceAdd, stepBox, ge_iff_le, dStrBin, takes, ptrArgs, callArgs, given, oroom, vroom, Option.isSome_none, stepTake, stepPtr, notAgg, ite_self, AVB]
    | (refine drW_intro (by kernel_rfl) ?_)
    | (refine gw_intro (fun h => ?_) (fun h => ?_) <;> (try simp only [beq_true, beq_false, Bool.not_eq_eq_eq_not, Bool.not_true, Bool.not_false, Bool.not_not, decide_eq_true_eq, decide_eq_false_iff_not, ge_iff_le, gt_iff_lt] at h)))
              | true =>
                refine callK (m := 93) (res := [4]) (rs := [.tmp 4]) rfl Tryd.func48 rfl rfl rfl rfl rfl ?_
                repeat' (first
    | simp only [*, guardG, opG, inB, sval, stake, eats, eaters, get, cval, cval1, croom, St.taken, endQ, endR, endV, rvars, rvar, room1, ↓reduceIte, Nat.reduceEqDiff, Nat.reduceLT, reduceCtorEq, List.filterMap_cons, List.filterMap_nil, Option.bind_some, Option.map_some, Option.bind_none, List.getElem?_cons_zero, List.getElem?_cons_succ, List.getD_cons_zero, List.getD_cons_succ, List.contains_cons, List.contains_nil, List.map_cons, List.map_nil, beq_self_eq_true, Nat.reduceBEq, dbin, dIntBin, okR, callG, pureB, leaf, leafN, List.all_cons, List.all_nil, List.nil_append, List.append_nil, List.take_nil, List.length_nil, List.length_cons, List.getElem?_nil, dcells, Nat.reduceAdd, stepBox, ge_iff_le, dStrBin, takes, ptrArgs, callArgs, given, oroom, vroom, Option.isSome_none, stepTake, stepPtr, notAgg, ite_self, AVB]
    | (refine drW_intro (by kernel_rfl) ?_)
    | (refine gw_intro (fun h => ?_) (fun h => ?_) <;> (try simp only [beq_true, beq_false, Bool.not_eq_eq_eq_not, Bool.not_true, Bool.not_false, Bool.not_not, decide_eq_true_eq, decide_eq_false_iff_not, ge_iff_le, gt_iff_lt] at h)))
    · by_cases k2 : k = 2
      · subst k2
        refine callK (m := 93) (res := [4]) (rs := [.tmp 4]) rfl Tryd.func48 rfl rfl rfl rfl rfl ?_
        repeat' (first
    | simp only [*, guardG, opG, inB, sval, stake, eats, eaters, get, cval, cval1, croom, St.taken, endQ, endR, endV, rvars, rvar, room1, ↓reduceIte, Nat.reduceEqDiff, Nat.reduceLT, reduceCtorEq, List.filterMap_cons, List.filterMap_nil, Option.bind_some, Option.map_some, Option.bind_none, List.getElem?_cons_zero, List.getElem?_cons_succ, List.getD_cons_zero, List.getD_cons_succ, List.contains_cons, List.contains_nil, List.map_nil, beq_self_eq_true, Nat.reduceBEq, dbin, dIntBin, okR, callG, pureB, leaf, leafN, List.all_cons, List.all_nil, List.append_nil, List.take_nil, List.length_nil, List.length_cons, List.getElem?_nil, dcells, Nat.reduceAdd, stepBox, ge_iff_le, dStrBin, Int.reduceBEq, takes, ptrArgs, callArgs, given, oroom, vroom, Option.isSome_none, stepTake, stepPtr, notAgg, ite_self, AVB]
    | (refine drW_intro (by kernel_rfl) ?_)
    | (refine gw_intro (fun h => ?_) (fun h => ?_) <;> (try simp only [beq_true, beq_false, Bool.not_eq_eq_eq_not, Bool.not_true, Bool.not_false, Bool.not_not, decide_eq_true_eq, decide_eq_false_iff_not, ge_iff_le, gt_iff_lt] at h)))
      · by_cases k3 : k = 3
        · subst k3
          cases c1 : (sp == []) with
          | false =>
            refine callK (m := 93) (res := [4]) (rs := [.tmp 4]) rfl Tryd.func48 rfl rfl rfl rfl rfl ?_
            repeat' (first
    | simp only [*, guardG, opG, inB, sval, stake, eats, eaters, get, cval, cval1, croom, St.taken, endQ, endR, endV, rvars, rvar, room1, ↓reduceIte, Nat.reduceEqDiff, Nat.reduceLT, reduceCtorEq, List.filterMap_cons, List.filterMap_nil, Option.bind_some, Option.map_some, Option.bind_none, List.getElem?_cons_zero, List.getElem?_cons_succ, List.getD_cons_zero, List.getD_cons_succ, List.contains_cons, List.contains_nil, List.map_nil, beq_self_eq_true, Nat.reduceBEq, dbin, dIntBin, okR, callG, pureB, leaf, leafN, List.all_cons, List.all_nil, List.nil_append, List.append_nil, List.take_nil, List.length_nil, List.length_cons, List.getElem?_nil, dcells, Nat.reduceAdd, stepBox, ge_iff_le, dStrBin, Int.reduceBEq, takes, ptrArgs, callArgs, given, oroom, vroom, Option.isSome_none, stepTake, stepPtr, notAgg, ite_self, AVB]
    | (refine drW_intro (by kernel_rfl) ?_)
    | (refine gw_intro (fun h => ?_) (fun h => ?_) <;> (try simp only [beq_true, beq_false, Bool.not_eq_eq_eq_not, Bool.not_true, Bool.not_false, Bool.not_not, decide_eq_true_eq, decide_eq_false_iff_not, ge_iff_le, gt_iff_lt] at h)))
          | true =>
            cases c2 : (nm == []) with
            | false =>
              refine callK (m := 93) (res := [4]) (rs := [.tmp 4]) rfl Tryd.func48 rfl rfl rfl rfl rfl ?_
              repeat' (first
    | simp only [*, guardG, opG, inB, sval, stake, eats, eaters, get, cval, cval1, croom, St.taken, endQ, endR, endV, rvars, rvar, room1, ↓reduceIte, Nat.reduceEqDiff, Nat.reduceLT, reduceCtorEq, List.filterMap_cons, List.filterMap_nil, Option.bind_some, Option.map_some, Option.bind_none, List.getElem?_cons_zero, List.getElem?_cons_succ, List.getD_cons_zero, List.getD_cons_succ, List.contains_cons, List.contains_nil, List.map_nil, beq_self_eq_true, Nat.reduceBEq, dbin, dIntBin, okR, callG, pureB, leaf, leafN, List.all_cons, List.all_nil, List.nil_append, List.append_nil, List.take_nil, List.length_nil, List.length_cons, List.getElem?_nil, dcells, Nat.reduceAdd, stepBox, ge_iff_le, dStrBin, Int.reduceBEq, takes, ptrArgs, callArgs, given, oroom, vroom, Option.isSome_none, stepTake, stepPtr, notAgg, ite_self, AVB]
    | (refine drW_intro (by kernel_rfl) ?_)
    | (refine gw_intro (fun h => ?_) (fun h => ?_) <;> (try simp only [beq_true, beq_false, Bool.not_eq_eq_eq_not, Bool.not_true, Bool.not_false, Bool.not_not, decide_eq_true_eq, decide_eq_false_iff_not, ge_iff_le, gt_iff_lt] at h)))
            | true =>
              cases c3 : ((la.length : Int) == 0) with
              | false =>
                refine callK (m := 93) (res := [4]) (rs := [.tmp 4]) rfl Tryd.func48 rfl rfl rfl rfl rfl ?_
                repeat' (first
    | simp only [*, guardG, opG, inB, sval, stake, eats, eaters, get, cval, cval1, croom, St.taken, endQ, endR, endV, rvars, rvar, room1, ↓reduceIte, Nat.reduceEqDiff, Nat.reduceLT, reduceCtorEq, List.filterMap_cons, List.filterMap_nil, Option.bind_some, Option.map_some, Option.bind_none, List.getElem?_cons_zero, List.getElem?_cons_succ, List.getD_cons_zero, List.getD_cons_succ, List.contains_cons, List.contains_nil, List.map_nil, beq_self_eq_true, Nat.reduceBEq, dbin, dIntBin, okR, callG, pureB, leaf, leafN, List.all_cons, List.all_nil, List.nil_append, List.append_nil, List.take_nil, List.length_nil, List.length_cons, List.getElem?_nil, dcells, Nat.reduceAdd, stepBox, ge_iff_le, dStrBin, Int.reduceBEq, takes, ptrArgs, callArgs, given, oroom, vroom, Option.isSome_none, stepTake, stepPtr, notAgg, ite_self, AVB]
    | (refine drW_intro (by kernel_rfl) ?_)
    | (refine gw_intro (fun h => ?_) (fun h => ?_) <;> (try simp only [beq_true, beq_false, Bool.not_eq_eq_eq_not, Bool.not_true, Bool.not_false, Bool.not_not, decide_eq_true_eq, decide_eq_false_iff_not, ge_iff_le, gt_iff_lt] at h)))
              | true =>
                cases c4 : ((ls.length : Int) == 0) with
                | false =>
                  refine callK (m := 93) (res := [4]) (rs := [.tmp 4]) rfl Tryd.func48 rfl rfl rfl rfl rfl ?_
                  repeat' (first
    | simp only [*, guardG, opG, inB, sval, stake, eats, eaters, get, cval, cval1, croom, St.taken, endQ, endR, endV, rvars, rvar, room1, ↓reduceIte, Nat.reduceEqDiff, Nat.reduceLT, reduceCtorEq, List.filterMap_cons, List.filterMap_nil, Option.bind_some, Option.map_some, Option.bind_none, List.getElem?_cons_zero, List.getElem?_cons_succ, List.getD_cons_zero, List.getD_cons_succ, List.contains_cons, List.contains_nil, List.map_nil, beq_self_eq_true, Nat.reduceBEq, dbin, dIntBin, okR, callG, pureB, leaf, leafN, List.all_cons, List.all_nil, List.nil_append, List.append_nil, List.take_nil, List.length_nil, List.length_cons, List.getElem?_nil, dcells, Nat.reduceAdd, stepBox, ge_iff_le, dStrBin, Int.reduceBEq, takes, ptrArgs, callArgs, given, oroom, vroom, Option.isSome_none, stepTake, stepPtr, notAgg, ite_self, AVB]
    | (refine drW_intro (by kernel_rfl) ?_)
    | (refine gw_intro (fun h => ?_) (fun h => ?_) <;> (try simp only [beq_true, beq_false, Bool.not_eq_eq_eq_not, Bool.not_true, Bool.not_false, Bool.not_not, decide_eq_true_eq, decide_eq_false_iff_not, ge_iff_le, gt_iff_lt] at h)))
                | true =>
                  refine callK (m := 93) (res := [4]) (rs := [.tmp 4]) rfl Tryd.func48 rfl rfl rfl rfl rfl ?_
                  repeat' (first
    | simp only [*, guardG, opG, inB, sval, stake, eats, eaters, get, cval, cval1, croom, St.taken, endQ, endR, endV, rvars, rvar, room1, ↓reduceIte, Nat.reduceEqDiff, Nat.reduceLT, reduceCtorEq, List.filterMap_cons, List.filterMap_nil, Option.bind_some, Option.map_some, Option.bind_none, List.getElem?_cons_zero, List.getElem?_cons_succ, List.getD_cons_zero, List.getD_cons_succ, List.contains_cons, List.contains_nil, List.map_cons, List.map_nil, beq_self_eq_true, Nat.reduceBEq, dbin, dIntBin, okR, callG, pureB, leaf, leafN, List.all_cons, List.all_nil, List.nil_append, List.append_nil, List.take_nil, List.length_nil, List.length_cons, List.getElem?_nil, dcells, Nat.reduceAdd, stepBox, ge_iff_le, dStrBin, Int.reduceBEq, takes, ptrArgs, callArgs, given, oroom, vroom, Option.isSome_none, stepTake, stepPtr, notAgg, ite_self, AVB]
    | (refine drW_intro (by kernel_rfl) ?_)
    | (refine gw_intro (fun h => ?_) (fun h => ?_) <;> (try simp only [beq_true, beq_false, Bool.not_eq_eq_eq_not, Bool.not_true, Bool.not_false, Bool.not_not, decide_eq_true_eq, decide_eq_false_iff_not, ge_iff_le, gt_iff_lt] at h)))
        · have b1 : (k == 1) = false := by simpa using k1
          have b2 : (k == 2) = false := by simpa using k2
          have b3 : (k == 3) = false := by simpa using k3
          refine callK (m := 93) (res := [4]) (rs := [.tmp 4]) rfl Tryd.func48 rfl rfl rfl rfl rfl ?_
          repeat' (first
    | simp only [*, guardG, opG, inB, sval, stake, eats, eaters, get, cval, cval1, croom, St.taken, endQ, endR, endV, rvars, rvar, room1, ↓reduceIte, Nat.reduceEqDiff, Nat.reduceLT, reduceCtorEq, List.filterMap_cons, List.filterMap_nil, Option.bind_some, Option.map_some, Option.bind_none, List.getElem?_cons_zero, List.getElem?_cons_succ, List.getD_cons_zero, List.getD_cons_succ, List.contains_cons, List.contains_nil, List.map_nil, beq_self_eq_true, Nat.reduceBEq, dbin, dIntBin, okR, callG, pureB, leaf, leafN, List.all_cons, List.all_nil, List.append_nil, List.take_nil, List.length_nil, List.length_cons, List.getElem?_nil, dcells, Nat.reduceAdd, stepBox, ge_iff_le, dStrBin, takes, ptrArgs, callArgs, given, oroom, vroom, Option.isSome_none, stepTake, stepPtr, notAgg, ite_self, AVB]
    | (refine drW_intro (by kernel_rfl) ?_)
    | (refine gw_intro (fun h => ?_) (fun h => ?_) <;> (try simp only [beq_true, beq_false, Bool.not_eq_eq_eq_not, Bool.not_true, Bool.not_false, Bool.not_not, decide_eq_true_eq, decide_eq_false_iff_not, ge_iff_le, gt_iff_lt] at h)))
theorem par_L (ahead : List Nd) (n : Nd) (h : parOk ahead n.p = false) : callL Tryd.prog (ext11b chk) 48 [.list (ahead.map Nd.d), n.d] [] = some (.bool false, [.no], []) := by
  obtain ⟨p, k, sp, nm, la, ls, tx⟩ := n
  have lN := lenM ahead Nd.d
  unfold parOk at h
  simp only [Nd.d]
  simp only [] at h
  generalize la.map At.d = LA at *
  generalize ls.map D.str = LS at *
  by_cases h1 : p < -1
  · generalize ahead.map Nd.d = AH at *
    clear lN h
    refine callK (m := 93) (res := [4]) (rs := [.tmp 4]) rfl Tryd.func48 rfl rfl rfl rfl rfl ?_
    repeat' (first
    | simp only [*, guardG, opG, inB, sval, stake, eats, eaters, get, cval, cval1, croom, St.taken, endQ, endR, endV, rvars, rvar, room1, ↓reduceIte, Nat.reduceEqDiff, Nat.reduceLT, List.filterMap_cons, List.filterMap_nil, Option.bind_some, Option.map_some, Option.bind_none, List.getElem?_cons_zero, List.getElem?_cons_succ, List.getD_cons_zero, List.getD_cons_succ, List.contains_cons, List.contains_nil, List.map_nil, dbin, dIntBin, okR, callG, pureB, leaf, leafN, List.all_cons, List.all_nil, List.append_nil, List.take_nil, List.length_nil, List.length_cons, List.getElem?_nil, dcells, Nat.reduceAdd, stepBox, dStrBin, takes, ptrArgs, callArgs, given, oroom, vroom, Option.isSome_none, stepTake, stepPtr, notAgg, ite_self, AVB]
    | (refine drW_intro (by kernel_rfl) ?_)
    | (refine gw_intro (fun h => ?_) (fun h => ?_) <;> (try simp only [beq_true, beq_false, Bool.not_eq_eq_eq_not, Bool.not_true, Bool.not_false, Bool.not_not, decide_eq_true_eq, decide_eq_false_iff_not, ge_iff_le, gt_iff_lt] at h)))
  · by_cases h2 : (ahead.length : Int) ≤ p
    · generalize ahead.map Nd.d = AH at *
      have h2' : (AH.length : Int) ≤ p := by omega
      clear lN h h2
      refine callK (m := 93) (res := [4]) (rs := [.tmp 4]) rfl Tryd.func48 rfl rfl rfl rfl rfl ?_
      repeat' (first
    | simp only [*, guardG, opG, inB, sval, stake, eats, eaters, get, cval, cval1, croom, St.taken, endQ, endR, endV, rvars, rvar, room1, ↓reduceIte, Nat.reduceEqDiff, Nat.reduceLT, reduceCtorEq, List.filterMap_cons, List.filterMap_nil, Option.bind_some, Option.map_some, Option.bind_none, List.getElem?_cons_zero, List.getElem?_cons_succ, List.getD_cons_zero, List.getD_cons_succ, List.contains_cons, List.contains_nil, List.map_nil, beq_self_eq_true, dbin, dIntBin, okR, callG, pureB, leaf, leafN, List.all_cons, List.all_nil, List.append_nil, List.take_nil, List.length_nil, List.length_cons, List.getElem?_nil, dcells, Nat.reduceAdd, stepBox, ge_iff_le, dStrBin, takes, ptrArgs, callArgs, given, oroom, vroom, Option.isSome_none, stepTake, stepPtr, notAgg, ite_self, AVB]
    | (refine drW_intro (by kernel_rfl) ?_)
    | (refine gw_intro (fun h => ?_) (fun h => ?_) <;> (try simp only [beq_true, beq_false, Bool.not_eq_eq_eq_not, Bool.not_true, Bool.not_false, Bool.not_not, decide_eq_true_eq, decide_eq_false_iff_not, ge_iff_le, gt_iff_lt] at h)))
    · by_cases h0 : 0 ≤ p
      · obtain ⟨p', k', sp', nm', la', ls', tx', ha, hk⟩ := kind_at (ahead := ahead) h0 (by omega)
        rw [hk] at h
        have h4 : (k' != 1) = true := by simpa [h0, h1, h2] using h
        generalize ahead.map Nd.d = AH at *
        have gp : p < AH.length := by omega
        have h2' : ¬ (AH.length : Int) ≤ p := by omega
        clear lN h2 h hk
        refine callK (m := 93) (res := [4]) (rs := [.tmp 4]) rfl Tryd.func48 rfl rfl rfl rfl rfl ?_
        repeat' (first
    | simp only [*, guardG, opG, inB, sval, stake, eats, eaters, get, cval, cval1, croom, St.taken, endQ, endR, endV, rvars, rvar, room1, ↓reduceIte, Nat.reduceEqDiff, Nat.reduceLT, reduceCtorEq, List.filterMap_cons, List.filterMap_nil, Option.bind_some, Option.map_some, Option.bind_none, List.getElem?_cons_zero, List.getElem?_cons_succ, List.getD_cons_zero, List.getD_cons_succ, List.contains_cons, List.contains_nil, List.map_nil, beq_self_eq_true, dbin, dIntBin, okR, callG, pureB, leaf, leafN, List.all_cons, List.all_nil, List.append_nil, List.take_nil, List.length_nil, List.length_cons, List.getElem?_nil, dcells, Nat.reduceAdd, stepBox, ge_iff_le, dStrBin, takes, ptrArgs, callArgs, given, oroom, vroom, Option.isSome_none, stepTake, stepPtr, notAgg, ite_self, AVB]
    | (refine drW_intro (by kernel_rfl) ?_)
    | (refine gw_intro (fun h => ?_) (fun h => ?_) <;> (try simp only [beq_true, beq_false, Bool.not_eq_eq_eq_not, Bool.not_true, Bool.not_false, Bool.not_not, decide_eq_true_eq, decide_eq_false_iff_not, ge_iff_le, gt_iff_lt] at h)))
      · simp [h0, h1, h2] at h
theorem node_L (ahead : List Nd) (n : Nd) (hn : SmallN n) : callL Tryd.prog (ext11b chk) 48 [.list (ahead.map Nd.d), n.d] [] = some (.bool (nodeF ahead n), [.no], []) := by
  unfold nodeF
  cases h : parOk ahead n.p with
  | true => rw [Bool.true_and]; exact body_L ahead n hn h
  | false => rw [Bool.false_and]; exact par_L ahead n h
end Go.Av
