/- The evaluator, in one text: over any program; no conditions but those that each law names. -/
import Derived.Test.YtfhpckkldelkcaaDoorAvsd
set_option linter.unusedSimpArgs false
set_option linter.unusedVariables false
set_option linter.unusedSectionVars false
set_option maxRecDepth 100000
namespace Go.Av
open Go.Proofs
variable [Ek] {chk : List D → Bool}
theorem take_at {α : Type} {xs : List α} {i j : Nat} (h : j < i) : (xs.take i)[j]? = xs[j]? := by
  rw [List.getElem?_take, if_pos h]
theorem rpar_L (ahead : List Nd) (n : Nd) (h : parOk ahead n.p = false) : callL Tryd.prog (ext11b chk) 27 [.list (ahead.map Nd.d), n.d] [] = some (.bool false, [.no], []) := by
  obtain ⟨p, k, sp, nm, la, ls, tx⟩ := n
  have lN := lenM ahead Nd.d
  unfold parOk at h
  simp only [Nd.d]
  simp only [] at h
  generalize la.map At.d = LA at *
  generalize ls.map D.str = LS at *
  by_cases h1 : p < -1
  · generalize ahead.map Nd.d = AH at *
    clear lN h
    refine callK (m := 185) (res := [4]) (rs := [.tmp 4]) rfl Tryd.func27 rfl rfl rfl rfl rfl ?_
    repeat' (first
    | simp only [*, guardG, opG, inB, sval, stake, eats, eaters, get, cval, cval1, croom, St.taken, endQ, endR, endV, rvars, rvar, room1, ↓reduceIte, Nat.reduceEqDiff, Nat.reduceLT, List.filterMap_cons, List.filterMap_nil, Option.bind_some, Option.map_some, Option.bind_none, List.getElem?_cons_zero, List.getElem?_cons_succ, List.getD_cons_zero, List.getD_cons_succ, List.contains_cons, List.contains_nil, List.map_nil, dbin, dIntBin, okR, callG, pureB, leaf, leafN, List.all_cons, List.all_nil, List.append_nil, List.take_nil, List.length_nil, List.length_cons, List.getElem?_nil, dcells, Nat.reduceAdd, stepBox, dStrBin, takes, ptrArgs, callArgs, given, oroom, vroom, Option.isSome_none, stepTake, stepPtr, notAgg, ite_self, AVB]
    | (refine drW_intro (by kernel_rfl) ?_)
    | (refine gw_intro (fun h => ?_) (fun h => ?_) <;> (try simp only [beq_true, beq_false, Bool.not_eq_eq_eq_not, Bool.not_true, Bool.not_false, Bool.not_not, decide_eq_true_eq, decide_eq_false_iff_not, ge_iff_le, gt_iff_lt] at h)))
  · by_cases h2 : (ahead.length : Int) ≤ p
    · generalize ahead.map Nd.d = AH at *
      have h2' : (AH.length : Int) ≤ p := by omega
      clear lN h h2
      refine callK (m := 185) (res := [4]) (rs := [.tmp 4]) rfl Tryd.func27 rfl rfl rfl rfl rfl ?_
      repeat' (first
    | simp only [*, guardG, opG, inB, sval, stake, eats, eaters, get, cval, cval1, croom, St.taken, endQ, endR, endV, rvars, rvar, room1, ↓reduceIte, Nat.reduceEqDiff, Nat.reduceLT, reduceCtorEq, List.filterMap_cons, List.filterMap_nil, Option.bind_some, Option.map_some, Option.bind_none, List.getElem?_cons_zero, List.getElem?_cons_succ, List.getD_cons_zero, List.getD_cons_succ, List.contains_cons, List.contains_nil, List.map_nil, beq_self_eq_true, dbin, dIntBin, okR, callG, pureB, leaf, leafN, List.all_cons, List.all_nil, List.append_nil, List.take_nil, List.length_nil, List.length_cons, List.getElem?_nil, dcells, Nat.reduceAdd, stepBox, ge_iff_le, dStrBin, takes, ptrArgs, callArgs, given, oroom, vroom, Option.isSome_none, stepTake, stepPtr, notAgg, ite_self, AVB]
    | (refine drW_intro (by kernel_rfl) ?_)
    | (refine gw_intro (fun h => ?_) (fun h => ?_) <;> (try simp only [beq_true, beq_false, Bool.not_eq_eq_eq_not, Bool.not_true, Bool.not_false, Bool.not_not, decide_eq_true_eq, decide_eq_false_iff_not, ge_iff_le, gt_iff_lt] at h)))
    · by_cases h0 : 0 ≤ p
      · obtain ⟨p', k', sp', nm', la', ls', tx', ha, hk⟩ := kind_at (ahead := ahead) h0 (by omega)
        rw [hk] at h
        have h4 : (k' != 1) = true := by simpa [h0, h1, h2] using h
        generalize ahead.map Nd.d = AH at *
        have gp : p < AH.length := by omega
        have h2' : ¬ (AH.length : Int) ≤ p := by omega
        clear lN h2 h hk
        refine callK (m := 185) (res := [4]) (rs := [.tmp 4]) rfl Tryd.func27 rfl rfl rfl rfl rfl ?_
        repeat' (first
    | simp only [*, guardG, opG, inB, sval, stake, eats, eaters, get, cval, cval1, croom, St.taken, endQ, endR, endV, rvars, rvar, room1, ↓reduceIte, Nat.reduceEqDiff, Nat.reduceLT, reduceCtorEq, List.filterMap_cons, List.filterMap_nil, Option.bind_some, Option.map_some, Option.bind_none, List.getElem?_cons_zero, List.getElem?_cons_succ, List.getD_cons_zero, List.getD_cons_succ, List.contains_cons, List.contains_nil, List.map_nil, beq_self_eq_true, dbin, dIntBin, okR, callG, pureB, leaf, leafN, List.all_cons, List.all_nil, List.append_nil, List.take_nil, List.length_nil, List.length_cons, List.getElem?_nil, dcells, Nat.reduceAdd, stepBox, ge_iff_le, dStrBin, takes, ptrArgs, callArgs, given, oroom, vroom, Option.isSome_none, stepTake, stepPtr, notAgg, ite_self, AVB]
    | (refine drW_intro (by kernel_rfl) ?_)
    | (refine gw_intro (fun h => ?_) (fun h => ?_) <;> (try simp only [beq_true, beq_false, Bool.not_eq_eq_eq_not, Bool.not_true, Bool.not_false, Bool.not_not, decide_eq_true_eq, decide_eq_false_iff_not, ge_iff_le, gt_iff_lt] at h)))
      · simp [h0, h1, h2] at h
set_option maxHeartbeats 64000000 in
theorem relm1_L (AH : List D) (p : Int) (sp nm : List UInt8) (la : List At) (ls : List (List UInt8)) (tx : List UInt8) (hn : BigN ⟨p, 1, sp, nm, la, ls, tx⟩) (h1 : ¬ p < -1) (h2' : ¬ (AH.length : Int) ≤ p) (h0 : 0 ≤ p) (gp : p < AH.length) (p' k' : Int) (sp' nm' : List UInt8) (la' ls' : List D) (tx' : List UInt8) (ha : AH.getD p.toNat .bad = .agg [.int .i64 p', .int .i64 k', .str sp', .str nm', .list la', .list ls', .str tx']) (h4 : (k' != 1) = false) :
    callL Tryd.prog (ext11b chk) 27 [.list AH, .agg [.int .i64 p, .int .i64 1, .str sp, .str nm, .list (la.map At.d), .list (ls.map D.str), .str tx]] [] = some (.bool (elmF ⟨p, 1, sp, nm, la, ls, tx⟩), [.no], []) := by
  obtain ⟨s1, s2, s3, s4, s5, s6⟩ := hn
  have q1 := rright_L (chk := chk) nm s3
  have q2 := rright_L (chk := chk) sp s4
  clear s3 s4 s5
  have lA := lenM la At.d
  have lS := lenM ls D.str
  simp only [elmF]
  have H1 := Hd.mk s1
  have H2 := Hd.mk s2
  have H6 := Hd.mk s6
  clear s1 s2 s6
  cases c1 : (tx == []) with
  | false =>
    generalize la.map At.d = LA at *
    generalize ls.map D.str = LS at *
    generalize goodB nm = e1 at *
    generalize goodB sp = e2 at *
    refine callK (m := 185) (res := [4]) (rs := [.tmp 4]) rfl Tryd.func27 rfl rfl rfl rfl rfl ?_
    repeat' (first
    | simp only [*, guardG, opG, inB, sval, stake, eats, eaters, get, cval, cval1, croom, St.taken, endQ, endR, endV, rvars, rvar, room1, ↓reduceIte, Nat.reduceEqDiff, Nat.reduceLT, reduceCtorEq, List.filterMap_cons, List.filterMap_nil, Option.bind_some, Option.map_some, Option.bind_none, List.getElem?_cons_zero, List.getElem?_cons_succ, List.getD_cons_zero, List.getD_cons_succ, List.contains_cons, List.contains_nil, List.map_nil, beq_self_eq_true, dbin, dIntBin, okR, callG, pureB, leaf, leafN, List.all_cons, List.all_nil, List.nil_append, List.append_nil, List.take_nil, List.length_nil, List.length_cons, dun, List.getElem?_nil, dcells, Nat.reduceAdd, stepBox, ge_iff_le, dStrBin, Int.reduceBEq, Int.reduceBNe, takes, ptrArgs, callArgs, given, oroom, vroom, Option.isSome_none, stepTake, stepPtr, notAgg, ite_self, AVB]
    | (refine drW_intro (by kernel_rfl) ?_)
    | (refine gw_intro (fun h => ?_) (fun h => ?_) <;> (try simp only [beq_true, beq_false, Bool.not_eq_eq_eq_not, Bool.not_true, Bool.not_false, Bool.not_not, decide_eq_true_eq, decide_eq_false_iff_not, ge_iff_le, gt_iff_lt] at h)))
  | true =>
    have htx : tx = [] := by simpa using c1
    subst htx
    clear c1
    cases c2 : (nm == []) with
    | true =>
      generalize la.map At.d = LA at *
      generalize ls.map D.str = LS at *
      generalize goodB nm = e1 at *
      generalize goodB sp = e2 at *
      refine callK (m := 185) (res := [4]) (rs := [.tmp 4]) rfl Tryd.func27 rfl rfl rfl rfl rfl ?_
      repeat' (first
    | simp only [*, guardG, opG, inB, sval, stake, eats, eaters, get, cval, cval1, croom, St.taken, endQ, endR, endV, rvars, rvar, room1, ↓reduceIte, Nat.reduceEqDiff, Nat.reduceLT, reduceCtorEq, List.filterMap_cons, List.filterMap_nil, Option.bind_some, Option.map_some, Option.bind_none, List.getElem?_cons_zero, List.getElem?_cons_succ, List.getD_cons_zero, List.getD_cons_succ, List.contains_cons, List.contains_nil, List.map_nil, beq_self_eq_true, dbin, dIntBin, okR, callG, pureB, leaf, leafN, List.all_cons, List.all_nil, List.nil_append, List.append_nil, List.take_nil, List.length_nil, List.length_cons, dun, List.getElem?_nil, dcells, Nat.reduceAdd, stepBox, ge_iff_le, dStrBin, Int.reduceBEq, Int.reduceBNe, takes, ptrArgs, callArgs, given, oroom, vroom, Option.isSome_none, stepTake, stepPtr, notAgg, ite_self, AVB]
    | (refine drW_intro (by kernel_rfl) ?_)
    | (refine gw_intro (fun h => ?_) (fun h => ?_) <;> (try simp only [beq_true, beq_false, Bool.not_eq_eq_eq_not, Bool.not_true, Bool.not_false, Bool.not_not, decide_eq_true_eq, decide_eq_false_iff_not, ge_iff_le, gt_iff_lt] at h)))
    | false =>
      cases c3 : goodB nm with
      | false =>
        rw [c3] at q1
        generalize la.map At.d = LA at *
        generalize ls.map D.str = LS at *
        refine callK (m := 185) (res := [4]) (rs := [.tmp 4]) rfl Tryd.func27 rfl rfl rfl rfl rfl ?_
        repeat' (first
    | simp only [*, guardG, opG, inB, sval, stake, eats, eaters, get, cval, cval1, croom, St.taken, endQ, endR, endV, rvars, rvar, room1, ↓reduceIte, Nat.reduceEqDiff, Nat.reduceLT, reduceCtorEq, List.filterMap_cons, List.filterMap_nil, Option.bind_some, Option.map_some, Option.bind_none, List.getElem?_cons_zero, List.getElem?_cons_succ, List.getD_cons_zero, List.getD_cons_succ, List.contains_cons, List.contains_nil, List.map_cons, List.map_nil, beq_self_eq_true, dbin, dIntBin, okR, callG, pureB, leaf, leafN, List.all_cons, List.all_nil, List.nil_append, List.append_nil, List.take_nil, List.length_nil, List.length_cons, dun, List.getElem?_nil, dcells, Nat.reduceAdd, stepBox, ge_iff_le, dStrBin, Int.reduceBEq, Int.reduceBNe, takes, ptrArgs, callArgs, given, oroom, vroom, Option.isSome_none, stepTake, stepPtr, notAgg, ite_self, AVB]
    | (refine drW_intro (by kernel_rfl) ?_)
    | (refine gw_intro (fun h => ?_) (fun h => ?_) <;> (try simp only [beq_true, beq_false, Bool.not_eq_eq_eq_not, Bool.not_true, Bool.not_false, Bool.not_not, decide_eq_true_eq, decide_eq_false_iff_not, ge_iff_le, gt_iff_lt] at h)))
      | true =>
        cases c4 : goodB sp with
        | false =>
          rw [c3] at q1
          rw [c4] at q2
          generalize la.map At.d = LA at *
          generalize ls.map D.str = LS at *
          refine callK (m := 185) (res := [4]) (rs := [.tmp 4]) rfl Tryd.func27 rfl rfl rfl rfl rfl ?_
          repeat' (first
    | simp only [*, guardG, opG, inB, sval, stake, eats, eaters, get, cval, cval1, croom, St.taken, endQ, endR, endV, rvars, rvar, room1, ↓reduceIte, Nat.reduceEqDiff, Nat.reduceLT, reduceCtorEq, List.filterMap_cons, List.filterMap_nil, Option.bind_some, Option.map_some, Option.bind_none, List.getElem?_cons_zero, List.getElem?_cons_succ, List.getD_cons_zero, List.getD_cons_succ, List.contains_cons, List.contains_nil, List.map_cons, List.map_nil, beq_self_eq_true, dbin, dIntBin, okR, callG, pureB, leaf, leafN, List.all_cons, List.all_nil, List.nil_append, List.append_nil, List.take_nil, List.length_nil, List.length_cons, dun, List.getElem?_nil, dcells, Nat.reduceAdd, stepBox, ge_iff_le, dStrBin, Int.reduceBEq, Int.reduceBNe, takes, ptrArgs, callArgs, given, oroom, vroom, Option.isSome_none, stepTake, stepPtr, notAgg, ite_self, AVB]
    | (refine drW_intro (by kernel_rfl) ?_)
    | (refine gw_intro (fun h => ?_) (fun h => ?_) <;> (try simp only [beq_true, beq_false, Bool.not_eq_eq_eq_not, Bool.not_true, Bool.not_false, Bool.not_not, decide_eq_true_eq, decide_eq_false_iff_not, ge_iff_le, gt_iff_lt] at h)))
        | true =>
          rw [c3] at q1
          rw [c4] at q2
          clear c3 c4
          obtain ⟨R, hR⟩ : ∃ R, Hd (R = (attrsG (la.take 0) (la.drop 0) && statesB ls)) := ⟨_, rfl⟩
          rw [show (true && (!false && (true && (true && (attrsB la && statesB ls))))) = R from (show R = (attrsG (la.take 0) (la.drop 0) && statesB ls) from hR).symm]
          have b22 : ((1 : Int) == 2) = false := rfl
          have b33 : ((1 : Int) == 3) = false := rfl
          have b11 : ((1 : Int) != 1) = false := rfl
          refine callK (m := 185) (res := [4]) (rs := [.tmp 4]) rfl Tryd.func27 rfl rfl rfl rfl rfl ?_
          repeat' (first
    | simp only [*, guardG, opG, inB, sval, stake, eats, eaters, get, cval, cval1, croom, St.taken, ↓reduceIte, Nat.reduceEqDiff, Nat.reduceLT, reduceCtorEq, List.filterMap_cons, List.filterMap_nil, Option.bind_some, Option.map_some, Option.bind_none, List.getElem?_cons_zero, List.getElem?_cons_succ, List.getD_cons_zero, List.getD_cons_succ, List.contains_cons, List.contains_nil, List.map_cons, List.map_nil, beq_self_eq_true, dbin, dIntBin, okR, callG, pureB, leaf, leafN, List.all_cons, List.all_nil, List.nil_append, List.append_nil, List.length_nil, List.length_cons, dun, dcells, Nat.reduceAdd, stepBox, ge_iff_le, dStrBin, takes, ptrArgs, callArgs, given, oroom, vroom, Option.isSome_none, stepTake, stepPtr, AVB]
    | (refine drW_intro (by kernel_rfl) ?_)
    | (refine gw_intro (fun h => ?_) (fun h => ?_) <;> (try simp only [beq_true, beq_false, Bool.not_eq_eq_eq_not, Bool.not_true, Bool.not_false, Bool.not_not, decide_eq_true_eq, decide_eq_false_iff_not, ge_iff_le, gt_iff_lt] at h)))
          clear c2 q1 q2 h1 h2' h0 gp ha h4
          refine loopH (fun st => ∃ i : Nat, i ≤ la.length ∧ st.slot 5 = .int .i64 i ∧ st.slot 0 = .list AH ∧ st.slot 3 = .ptr 3 1 0 ∧ st.box 3 = some ⟨1, [.int .i64 p, .int .i64 1, .str sp, .str nm, .list (la.map At.d), .list (ls.map D.str), .str []], [.no, .no, .no, .no, .no, .no, .no]⟩ ∧ st.slot 4 = .bool false ∧ st.room 4 = [] ∧ Hd (R = (attrsG (la.take i) (la.drop i) && statesB ls))) (fun st => la.length - slotI st 5) ?_ ?_
          · refine ⟨0, Nat.zero_le _, ?_, ?_, ?_, ?_, ?_, ?_, hR⟩
            all_goals simp only [*, put_slot, put_room, put_box, setBox_box, entry_slot, ↓reduceIte, Nat.reduceEqDiff, reduceCtorEq, List.getD_cons_zero, Option.some.injEq]
            all_goals rfl
          · rintro st K ⟨i, hi, g5, g0, g3, gb, g4, gr, hO⟩ hn hx hr
            have hl : la.length ≤ 140737488355328 := H1
            have hO' : R = (attrsG (la.take i) (la.drop i) && statesB ls) := hO
            clear hO
            by_cases h : i < la.length
            · have g9 : (i : Int) < la.length := by omega
              have hw := wrapS i (by omega)
              obtain ⟨x, hx1⟩ := some_at h
              obtain ⟨s1, s2, s3⟩ : BigA x := (show ∀ a ∈ la, BigA a from H6) x (List.mem_of_getElem? hx1)
              rw [attrsG_at hx1] at hO'
              have ha := getD_map (f := At.d) hx1
              obtain ⟨a1, a2, a3⟩ := x
              have ha2 : (la.map At.d).getD i .bad = .agg [.str a1, .str a2, .str a3] := ha
              clear ha hx1
              have r1 := rright_L (chk := chk) a1 s1
              have r2 := rright_L (chk := chk) a2 s2
              have r3 := rright_L (chk := chk) a3 s3
              simp only [atOk] at hO'
              generalize hrest : (attrsG (la.take (i + 1)) (la.drop (i + 1)) && statesB ls) = rest at *
              rw [Bool.and_assoc, hrest] at hO'
              have HREST := Hd.mk hrest
              clear hrest s1 s2 s3
              cases f0 : (a2 == []) with
              | true =>
                rw [f0] at hO'
                simp only [Bool.not_true, Bool.false_and] at hO'
                subst hO'
                generalize goodB a1 = e1 at *
                generalize goodB a2 = e2 at *
                generalize goodB a3 = e3 at *
                clear hn hx hl hR HREST
                repeat' (first
    | simp only [*, guardG, opG, inB, sval, stake, eats, eaters, get, cval, cval1, croom, St.taken, ↓reduceIte, Nat.reduceEqDiff, Nat.reduceLT, Nat.reduceLeDiff, List.filterMap_cons, List.filterMap_nil, Option.bind_some, Option.map_some, Option.bind_none, List.getElem?_cons_zero, List.getElem?_cons_succ, List.contains_cons, List.contains_nil, Nat.reduceBEq, dbin, dIntBin, okR, callG, pureB, leaf, leafN, List.all_cons, List.all_nil, List.nil_append, List.append_nil, List.length_nil, List.length_cons, dun, List.take_zero, List.drop_succ_cons, dcells, Nat.reduceAdd, stepBox, dStrBin, takes, ptrArgs, callArgs, given, oroom, vroom, Option.isSome_none, stepTake, stepPtr, List.drop_succ_cons, List.drop_nil, AVB]
    | (refine drW_intro (by kernel_rfl) ?_)
    | (refine gw_intro (fun h => ?_) (fun h => ?_) <;> (try simp only [beq_true, beq_false, Bool.not_eq_eq_eq_not, Bool.not_true, Bool.not_false, Bool.not_not, decide_eq_true_eq, decide_eq_false_iff_not, ge_iff_le, gt_iff_lt] at h)))
                refine hr _ ?_
                repeat' (first
    | simp only [*, put_slot, put_room, put_box, dem_box, setBox_box, endQ, endR, endV, rvars, rvar, room1, ↓reduceIte, List.map_nil, pureB, leaf, leafN, List.take_nil, List.range_zero, and_self, notAgg]
    | (refine drW_intro (by kernel_rfl) ?_)
    | (refine gw_intro (fun h => ?_) (fun h => ?_) <;> (try simp only [beq_true, beq_false, Bool.not_eq_eq_eq_not, Bool.not_true, Bool.not_false, Bool.not_not, decide_eq_true_eq, decide_eq_false_iff_not, ge_iff_le, gt_iff_lt] at h)))
              | false =>
                rw [f0] at hO'
                cases e2 : goodB a2 with
                | false =>
                  rw [e2] at hO' r2
                  simp only [Bool.not_false, Bool.false_and, Bool.and_false] at hO'
                  subst hO'
                  generalize goodB a1 = e1 at *
                  generalize goodB a3 = e3 at *
                  clear hn hx hl hR HREST
                  repeat' (first
    | simp only [*, guardG, opG, inB, sval, stake, eats, eaters, get, cval, cval1, croom, St.taken, ↓reduceIte, Nat.reduceEqDiff, Nat.reduceLT, Nat.reduceLeDiff, List.filterMap_cons, List.filterMap_nil, Option.bind_some, Option.map_some, Option.bind_none, List.getElem?_cons_zero, List.getElem?_cons_succ, List.contains_cons, List.contains_nil, List.map_cons, List.map_nil, beq_self_eq_true, Nat.reduceBEq, dbin, dIntBin, okR, callG, pureB, leaf, leafN, List.all_cons, List.all_nil, List.nil_append, List.append_nil, List.length_nil, List.length_cons, dun, List.take_zero, List.drop_succ_cons, dcells, Nat.reduceAdd, stepBox, dStrBin, takes, ptrArgs, callArgs, given, oroom, vroom, Option.isSome_none, stepTake, stepPtr, List.drop_succ_cons, List.drop_nil, AVB]
    | (refine drW_intro (by kernel_rfl) ?_)
    | (refine gw_intro (fun h => ?_) (fun h => ?_) <;> (try simp only [beq_true, beq_false, Bool.not_eq_eq_eq_not, Bool.not_true, Bool.not_false, Bool.not_not, decide_eq_true_eq, decide_eq_false_iff_not, ge_iff_le, gt_iff_lt] at h)))
                  refine hr _ ?_
                  repeat' (first
    | simp only [*, put_slot, put_room, put_box, dem_box, setBox_box, endQ, endR, endV, rvars, rvar, room1, ↓reduceIte, List.map_nil, pureB, leaf, leafN, List.take_nil, List.range_zero, and_self, notAgg]
    | (refine drW_intro (by kernel_rfl) ?_)
    | (refine gw_intro (fun h => ?_) (fun h => ?_) <;> (try simp only [beq_true, beq_false, Bool.not_eq_eq_eq_not, Bool.not_true, Bool.not_false, Bool.not_not, decide_eq_true_eq, decide_eq_false_iff_not, ge_iff_le, gt_iff_lt] at h)))
                | true =>
                  cases e1 : goodB a1 with
                  | false =>
                    rw [e1] at hO' r1
                    rw [e2] at r2
                    simp only [Bool.not_false, Bool.false_and, Bool.and_false] at hO'
                    subst hO'
                    generalize goodB a3 = e3 at *
                    clear hn hx hl hR HREST
                    repeat' (first
    | simp only [*, guardG, opG, inB, sval, stake, eats, eaters, get, cval, cval1, croom, St.taken, ↓reduceIte, Nat.reduceEqDiff, Nat.reduceLT, Nat.reduceLeDiff, List.filterMap_cons, List.filterMap_nil, Option.bind_some, Option.map_some, Option.bind_none, List.getElem?_cons_zero, List.getElem?_cons_succ, List.contains_cons, List.contains_nil, List.map_cons, List.map_nil, beq_self_eq_true, Nat.reduceBEq, dbin, dIntBin, okR, callG, pureB, leaf, leafN, List.all_cons, List.all_nil, List.nil_append, List.append_nil, List.length_nil, List.length_cons, dun, List.take_zero, List.drop_succ_cons, dcells, Nat.reduceAdd, stepBox, dStrBin, takes, ptrArgs, callArgs, given, oroom, vroom, Option.isSome_none, stepTake, stepPtr, List.drop_succ_cons, List.drop_nil, AVB]
    | (refine drW_intro (by kernel_rfl) ?_)
    | (refine gw_intro (fun h => ?_) (fun h => ?_) <;> (try simp only [beq_true, beq_false, Bool.not_eq_eq_eq_not, Bool.not_true, Bool.not_false, Bool.not_not, decide_eq_true_eq, decide_eq_false_iff_not, ge_iff_le, gt_iff_lt] at h)))
                    refine hr _ ?_
                    repeat' (first
    | simp only [*, put_slot, put_room, put_box, dem_box, setBox_box, endQ, endR, endV, rvars, rvar, room1, ↓reduceIte, List.map_nil, pureB, leaf, leafN, List.take_nil, List.range_zero, and_self, notAgg]
    | (refine drW_intro (by kernel_rfl) ?_)
    | (refine gw_intro (fun h => ?_) (fun h => ?_) <;> (try simp only [beq_true, beq_false, Bool.not_eq_eq_eq_not, Bool.not_true, Bool.not_false, Bool.not_not, decide_eq_true_eq, decide_eq_false_iff_not, ge_iff_le, gt_iff_lt] at h)))
                  | true =>
                    cases e3 : goodB a3 with
                    | false =>
                      rw [e3] at hO' r3
                      rw [e2] at r2
                      rw [e1] at r1
                      simp only [Bool.not_false, Bool.false_and, Bool.and_false] at hO'
                      subst hO'
                      clear hn hx hl hR HREST
                      repeat' (first
    | simp only [*, guardG, opG, inB, sval, stake, eats, eaters, get, cval, cval1, croom, St.taken, ↓reduceIte, Nat.reduceEqDiff, Nat.reduceLT, Nat.reduceLeDiff, List.filterMap_cons, List.filterMap_nil, Option.bind_some, Option.map_some, Option.bind_none, List.getElem?_cons_zero, List.getElem?_cons_succ, List.contains_cons, List.contains_nil, List.map_cons, List.map_nil, beq_self_eq_true, Nat.reduceBEq, dbin, dIntBin, okR, callG, pureB, leaf, leafN, List.all_cons, List.all_nil, List.nil_append, List.append_nil, List.length_nil, List.length_cons, dun, List.take_zero, List.drop_succ_cons, dcells, Nat.reduceAdd, stepBox, dStrBin, takes, ptrArgs, callArgs, given, oroom, vroom, Option.isSome_none, stepTake, stepPtr, List.drop_succ_cons, List.drop_nil, AVB]
    | (refine drW_intro (by kernel_rfl) ?_)
    | (refine gw_intro (fun h => ?_) (fun h => ?_) <;> (try simp only [beq_true, beq_false, Bool.not_eq_eq_eq_not, Bool.not_true, Bool.not_false, Bool.not_not, decide_eq_true_eq, decide_eq_false_iff_not, ge_iff_le, gt_iff_lt] at h)))
                      refine hr _ ?_
                      repeat' (first
    | simp only [*, put_slot, put_room, put_box, dem_box, setBox_box, endQ, endR, endV, rvars, rvar, room1, ↓reduceIte, List.map_nil, pureB, leaf, leafN, List.take_nil, List.range_zero, and_self, notAgg]
    | (refine drW_intro (by kernel_rfl) ?_)
    | (refine gw_intro (fun h => ?_) (fun h => ?_) <;> (try simp only [beq_true, beq_false, Bool.not_eq_eq_eq_not, Bool.not_true, Bool.not_false, Bool.not_not, decide_eq_true_eq, decide_eq_false_iff_not, ge_iff_le, gt_iff_lt] at h)))
                    | true =>
                      rw [e1] at r1 hO'
                      rw [e2] at r2 hO'
                      rw [e3] at r3 hO'
                      simp only [Bool.not_false, Bool.true_and] at hO'
                      have HO : Hd (R = (!(((la.take i).drop 0).any (sameN a1 a2)) && rest)) := hO'
                      clear hO' hx e1 e2 e3
                      repeat' (first
    | simp only [*, guardG, opG, inB, sval, stake, eats, eaters, get, cval, cval1, croom, St.taken, ↓reduceIte, Nat.reduceEqDiff, Nat.reduceLT, Nat.reduceLeDiff, List.filterMap_cons, List.filterMap_nil, Option.bind_some, Option.map_some, Option.bind_none, List.getElem?_cons_zero, List.getElem?_cons_succ, List.contains_cons, List.contains_nil, List.map_cons, List.map_nil, beq_self_eq_true, Nat.reduceBEq, dbin, dIntBin, okR, callG, pureB, leaf, leafN, List.all_cons, List.all_nil, List.nil_append, List.append_nil, List.length_nil, List.length_cons, dun, List.take_zero, List.drop_succ_cons, dcells, Nat.reduceAdd, stepBox, dStrBin, takes, ptrArgs, callArgs, given, oroom, vroom, Option.isSome_none, stepTake, stepPtr, List.drop_succ_cons, List.drop_nil, AVB]
    | (refine drW_intro (by kernel_rfl) ?_)
    | (refine gw_intro (fun h => ?_) (fun h => ?_) <;> (try simp only [beq_true, beq_false, Bool.not_eq_eq_eq_not, Bool.not_true, Bool.not_false, Bool.not_not, decide_eq_true_eq, decide_eq_false_iff_not, ge_iff_le, gt_iff_lt] at h)))
                      clear r1 r2 r3 f0 ha2
                      have HI := Hd.mk h
                      have G5 := Hd.mk g5
                      clear h g9 hl
                      refine loopH (fun st' => ∃ j g : Nat, j ≤ i ∧ st'.slot 7 = .int .i64 j ∧ st'.slot 5 = .int .i64 i ∧ st'.slot 0 = .list AH ∧ st'.slot 3 = .ptr 3 1 0 ∧ st'.box 3 = some ⟨1, [.int .i64 p, .int .i64 1, .str sp, .str nm, .list (la.map At.d), .list (ls.map D.str), .str []], [.no, .no, .no, .no, .no, .no, .no]⟩ ∧ st'.slot 6 = .ptr 6 g 0 ∧ st'.box 6 = some ⟨g, [.str a1, .str a2, .str a3], [.no, .no, .no]⟩ ∧ st'.slot 4 = .bool false ∧ st'.room 4 = [] ∧ Hd (R = (!(((la.take i).drop j).any (sameN a1 a2)) && rest))) (fun st' => i - slotI st' 7) ?_ ?_
                      · refine ⟨0, st.ctr 6, Nat.zero_le _, ?_, ?_, ?_, ?_, ?_, ?_, ?_, ?_, ?_, HO⟩
                        all_goals simp only [*, ↓reduceIte, Nat.reduceEqDiff, reduceCtorEq, AVB]
                        all_goals rfl
                      · clear g5 g0 g3 gb g4 gr
                        rintro st' K' ⟨j, g, hj, j7, j5, j0, j3, jb3, j6, jb6, j4, jr, hO2⟩ hn2 hx2 hr2
                        have hi2 : i < la.length := HI
                        have hl : la.length ≤ 140737488355328 := H1
                        have hO3 : R = (!(((la.take i).drop j).any (sameN a1 a2)) && rest) := hO2
                        clear hO2
                        by_cases h : j < i
                        · have m9 : (j : Int) < i := by omega
                          have m8 : (j : Int) < la.length := by omega
                          have hw2 := wrapS j (by omega)
                          obtain ⟨y, hy1⟩ := some_at (show j < la.length by omega)
                          rw [any_drop (sameN a1 a2) (by rw [take_at h]; exact hy1)] at hO3
                          have hb := getD_map (f := At.d) hy1
                          obtain ⟨b1, b2, b3⟩ := y
                          have hb2 : (la.map At.d).getD j .bad = .agg [.str b1, .str b2, .str b3] := hb
                          clear hb hy1 hi2
                          simp only [sameN] at hO3
                          cases d2 : (b2 == a2) with
                          | false =>
                            rw [d2] at hO3
                            simp only [Bool.and_false, Bool.false_or] at hO3
                            have HO4 : Hd (R = (!(((la.take i).drop (j + 1)).any (sameN a1 a2)) && rest)) := hO3
                            clear hO3 hr2 hx2 hn hr hl
                            repeat' (first
    | simp only [*, guardG, opG, opD, inB, sval, stake, eats, eaters, get, cval, cval1, croom, St.taken, ↓reduceIte, Nat.reduceEqDiff, Nat.reduceLT, List.filterMap_cons, List.filterMap_nil, Option.bind_some, Option.map_some, List.getElem?_cons_zero, List.getElem?_cons_succ, List.contains_cons, List.contains_nil, beq_self_eq_true, Nat.reduceBEq, dbin, dIntBin, isLocal, isAlloc, loadsOwn, List.nil_append, List.append_nil, List.length_nil, List.length_cons, dcells, Nat.reduceAdd, dStrBin, isBar, allocKeys, takes, vroom, stepTake, AVB]
    | (refine drW_intro (by kernel_rfl) ?_)
    | (refine gw_intro (fun h => ?_) (fun h => ?_) <;> (try simp only [beq_true, beq_false, Bool.not_eq_eq_eq_not, Bool.not_true, Bool.not_false, Bool.not_not, decide_eq_true_eq, decide_eq_false_iff_not, ge_iff_le, gt_iff_lt] at h)))
                            refine hn2 _ ⟨j + 1, g, h, ?_, ?_, ?_, ?_, ?_, ?_, ?_, ?_, ?_, HO4⟩ ?_
                            · simp only [*, put_slot, ↓reduceIte]
                            · simp only [*, put_slot, dem_slot, ↓reduceIte, Nat.reduceEqDiff]
                            · simp only [*, put_slot, dem_slot, ↓reduceIte, reduceCtorEq]
                            · simp only [*, put_slot, dem_slot, ↓reduceIte, Nat.reduceEqDiff]
                            · simp only [*, put_box, dem_box]
                            · simp only [*, put_slot, dem_slot, ↓reduceIte, Nat.reduceEqDiff]
                            · simp only [*, put_box, dem_box]
                            · simp only [*, put_slot, dem_slot, ↓reduceIte, Nat.reduceEqDiff]
                            · simp only [*, put_room, dem_room, ↓reduceIte, Nat.reduceEqDiff]
                            · simp only [slotI, *, put_slot, ↓reduceIte, Int.toNat_natCast]
                              omega
                          | true =>
                            cases d1 : (b1 == a1) with
                            | false =>
                              rw [d1] at hO3
                              simp only [Bool.false_and, Bool.false_or] at hO3
                              have HO4 : Hd (R = (!(((la.take i).drop (j + 1)).any (sameN a1 a2)) && rest)) := hO3
                              clear hO3 hr2 hx2 hn hr hl
                              repeat' (first
    | simp only [*, guardG, opG, opD, inB, sval, stake, eats, eaters, get, cval, cval1, croom, St.taken, ↓reduceIte, Nat.reduceEqDiff, Nat.reduceLT, List.filterMap_cons, List.filterMap_nil, Option.bind_some, Option.map_some, List.getElem?_cons_zero, List.getElem?_cons_succ, List.contains_cons, List.contains_nil, beq_self_eq_true, Nat.reduceBEq, dbin, dIntBin, isLocal, isAlloc, loadsOwn, List.nil_append, List.append_nil, List.length_nil, List.length_cons, dcells, Nat.reduceAdd, dStrBin, isBar, allocKeys, takes, vroom, stepTake, AVB]
    | (refine drW_intro (by kernel_rfl) ?_)
    | (refine gw_intro (fun h => ?_) (fun h => ?_) <;> (try simp only [beq_true, beq_false, Bool.not_eq_eq_eq_not, Bool.not_true, Bool.not_false, Bool.not_not, decide_eq_true_eq, decide_eq_false_iff_not, ge_iff_le, gt_iff_lt] at h)))
                              refine hn2 _ ⟨j + 1, g, h, ?_, ?_, ?_, ?_, ?_, ?_, ?_, ?_, ?_, HO4⟩ ?_
                              · simp only [*, put_slot, ↓reduceIte]
                              · simp only [*, put_slot, dem_slot, ↓reduceIte, Nat.reduceEqDiff]
                              · simp only [*, put_slot, dem_slot, ↓reduceIte, reduceCtorEq]
                              · simp only [*, put_slot, dem_slot, ↓reduceIte, Nat.reduceEqDiff]
                              · simp only [*, put_box, dem_box]
                              · simp only [*, put_slot, dem_slot, ↓reduceIte, Nat.reduceEqDiff]
                              · simp only [*, put_box, dem_box]
                              · simp only [*, put_slot, dem_slot, ↓reduceIte, Nat.reduceEqDiff]
                              · simp only [*, put_room, dem_room, ↓reduceIte, Nat.reduceEqDiff]
                              · simp only [slotI, *, put_slot, ↓reduceIte, Int.toNat_natCast]
                                omega
                            | true =>
                              rw [d1, d2] at hO3
                              simp only [Bool.and_true, Bool.true_or, Bool.not_true, Bool.false_and] at hO3
                              subst hO3
                              clear hn2 hx2 hR hn hl HREST
                              repeat' (first
    | simp only [*, guardG, opG, opD, inB, sval, stake, eats, eaters, get, cval, cval1, croom, St.taken, ↓reduceIte, Nat.reduceEqDiff, Nat.reduceLT, List.filterMap_cons, List.filterMap_nil, Option.bind_some, Option.map_some, List.getElem?_cons_zero, List.getElem?_cons_succ, List.contains_cons, List.contains_nil, beq_self_eq_true, Nat.reduceBEq, dbin, dIntBin, isLocal, isAlloc, loadsOwn, List.nil_append, List.append_nil, List.length_nil, List.length_cons, dcells, Nat.reduceAdd, dStrBin, isBar, allocKeys, takes, vroom, stepTake, AVB]
    | (refine drW_intro (by kernel_rfl) ?_)
    | (refine gw_intro (fun h => ?_) (fun h => ?_) <;> (try simp only [beq_true, beq_false, Bool.not_eq_eq_eq_not, Bool.not_true, Bool.not_false, Bool.not_not, decide_eq_true_eq, decide_eq_false_iff_not, ge_iff_le, gt_iff_lt] at h)))
                              refine hr2 _ ?_
                              refine hr _ ?_
                              repeat' (first
    | simp only [*, put_slot, put_room, put_box, endQ, endR, endV, rvars, rvar, room1, ↓reduceIte, List.map_nil, pureB, leaf, leafN, List.take_nil, List.range_zero, and_self, notAgg]
    | (refine drW_intro (by kernel_rfl) ?_)
    | (refine gw_intro (fun h => ?_) (fun h => ?_) <;> (try simp only [beq_true, beq_false, Bool.not_eq_eq_eq_not, Bool.not_true, Bool.not_false, Bool.not_not, decide_eq_true_eq, decide_eq_false_iff_not, ge_iff_le, gt_iff_lt] at h)))
                        · have m9 : ¬ (j : Int) < i := by omega
                          rw [any_end (sameN a1 a2) (by rw [List.length_take]; omega)] at hO3
                          simp only [Bool.not_false, Bool.true_and] at hO3
                          have HO4 : Hd (R = (attrsG (la.take (i + 1)) (la.drop (i + 1)) && statesB ls)) := by
                            have e : (attrsG (la.take (i + 1)) (la.drop (i + 1)) && statesB ls) = rest := HREST
                            rw [e]
                            exact hO3
                          clear hO3 hr2 hn2 hr hl
                          repeat' (first
    | simp only [*, guardG, opG, inB, sval, stake, eats, eaters, get, St.taken, ↓reduceIte, Nat.reduceEqDiff, Nat.reduceLT, List.filterMap_cons, List.filterMap_nil, Option.map_some, List.contains_cons, List.contains_nil, Nat.reduceBEq, dbin, dIntBin, List.append_nil, AVB]
    | (refine drW_intro (by kernel_rfl) ?_)
    | (refine gw_intro (fun h => ?_) (fun h => ?_) <;> (try simp only [beq_true, beq_false, Bool.not_eq_eq_eq_not, Bool.not_true, Bool.not_false, Bool.not_not, decide_eq_true_eq, decide_eq_false_iff_not, ge_iff_le, gt_iff_lt] at h)))
                          refine hx2 _ _ ?_
                          repeat' (first
    | simp only [*, guardG, opG, inB, sval, stake, eats, eaters, get, cval, cval1, St.taken, ↓reduceIte, Nat.reduceEqDiff, Nat.reduceLT, List.filterMap_cons, List.filterMap_nil, Option.map_some, List.contains_cons, List.contains_nil, beq_self_eq_true, Nat.reduceBEq, dbin, dIntBin, List.append_nil, AVB]
    | (refine drW_intro (by kernel_rfl) ?_)
    | (refine gw_intro (fun h => ?_) (fun h => ?_) <;> (try simp only [beq_true, beq_false, Bool.not_eq_eq_eq_not, Bool.not_true, Bool.not_false, Bool.not_not, decide_eq_true_eq, decide_eq_false_iff_not, ge_iff_le, gt_iff_lt] at h)))
                          refine hn _ ⟨i + 1, hi2, ?_, ?_, ?_, ?_, ?_, ?_, HO4⟩ ?_
                          · simp only [*, put_slot, ↓reduceIte]
                          · simp only [*, put_slot, dem_slot, ↓reduceIte, reduceCtorEq]
                          · simp only [*, put_slot, dem_slot, ↓reduceIte, Nat.reduceEqDiff]
                          · simp only [*, put_box, dem_box]
                          · simp only [*, put_slot, dem_slot, ↓reduceIte, Nat.reduceEqDiff]
                          · simp only [*, put_room, dem_room, ↓reduceIte, Nat.reduceEqDiff]
                          · have g5 : st.slot 5 = .int .i64 i := G5
                            simp only [slotI, *, put_slot, ↓reduceIte, Int.toNat_natCast, gt_iff_lt]
                            omega
            · have g9 : ¬ (i : Int) < la.length := by omega
              rw [attrsG_end (by omega), Bool.true_and] at hO'
              have HO : Hd (R = statesG (ls.take 0) (ls.drop 0)) := hO'
              clear hO' hn hr hl hR
              repeat' (first
    | simp only [*, guardG, opG, inB, sval, stake, eats, eaters, get, St.taken, ↓reduceIte, Nat.reduceEqDiff, Nat.reduceLT, List.filterMap_cons, List.filterMap_nil, Option.map_some, Option.bind_none, List.getElem?_cons_zero, List.getElem?_cons_succ, List.contains_cons, List.contains_nil, Nat.reduceBEq, dbin, dIntBin, List.append_nil, takes, ptrArgs, callArgs, Option.isSome_none, AVB]
    | (refine drW_intro (by kernel_rfl) ?_)
    | (refine gw_intro (fun h => ?_) (fun h => ?_) <;> (try simp only [beq_true, beq_false, Bool.not_eq_eq_eq_not, Bool.not_true, Bool.not_false, Bool.not_not, decide_eq_true_eq, decide_eq_false_iff_not, ge_iff_le, gt_iff_lt] at h)))
              refine hx _ _ ?_
              repeat' (first
    | simp only [*, guardG, opG, inB, sval, stake, eats, eaters, get, cval, cval1, croom, ↓reduceIte, Nat.reduceLT, List.filterMap_cons, List.filterMap_nil, List.contains_cons, List.contains_nil, List.append_nil, vroom, AVB]
    | (refine drW_intro (by kernel_rfl) ?_)
    | (refine gw_intro (fun h => ?_) (fun h => ?_) <;> (try simp only [beq_true, beq_false, Bool.not_eq_eq_eq_not, Bool.not_true, Bool.not_false, Bool.not_not, decide_eq_true_eq, decide_eq_false_iff_not, ge_iff_le, gt_iff_lt] at h)))
              have HX := Hd.mk hx
              clear hx g9 h hi
              refine loopH (fun st' => ∃ j : Nat, j ≤ ls.length ∧ st'.slot 8 = .int .i64 j ∧ st'.slot 0 = .list AH ∧ st'.slot 3 = .ptr 3 1 0 ∧ st'.box 3 = some ⟨1, [.int .i64 p, .int .i64 1, .str sp, .str nm, .list (la.map At.d), .list (ls.map D.str), .str []], [.no, .no, .no, .no, .no, .no, .no]⟩ ∧ st'.slot 4 = .bool false ∧ st'.room 4 = [] ∧ Hd (R = statesG (ls.take j) (ls.drop j))) (fun st' => ls.length - slotI st' 8) ?_ ?_
              · refine ⟨0, Nat.zero_le _, ?_, ?_, ?_, ?_, ?_, ?_, HO⟩
                all_goals simp only [*, put_slot, put_room, put_box, ↓reduceIte, Nat.reduceEqDiff, reduceCtorEq]
                all_goals rfl
              · clear g5 g0 g3 gb g4 gr
                rintro st' K' ⟨j, hj, g8, g0, g3, gb, g4, gr, hO2⟩ hn hx hr
                have hl2 : ls.length ≤ 140737488355328 := H2
                have hO3 : R = statesG (ls.take j) (ls.drop j) := hO2
                clear hO2
                by_cases h : j < ls.length
                · have g9 : (j : Int) < ls.length := by omega
                  have hw := wrapS j (by omega)
                  obtain ⟨x, hx1⟩ := some_at h
                  rw [statesG_at hx1] at hO3
                  have ha := getD_map (f := D.str) hx1
                  have u1 := rstate_L (chk := chk) x
                  have u2 : callL Tryd.prog (ext11b chk) 45 [.list ((ls.map D.str).take j), .str x] [] = some (.bool ((ls.take j).contains x), [.no], []) := by
                    rw [← List.map_take]
                    exact has_L (ls.take j) x (by rw [List.length_take]; omega)
                  have sz := szS ls
                  have gle : (j : Int) ≤ ls.length := by omega
                  generalize (ls.take j).contains x = e5 at *
                  generalize stS.contains x = e1 at *
                  cases e1 with
                  | false =>
                    simp only [Bool.false_and] at hO3
                    subst hO3
                    clear hn hx hl2 hx1 sz
                    repeat' (first
    | simp only [*, guardG, opG, opD, inB, sval, stake, eats, eaters, get, cval, cval1, croom, St.taken, ↓reduceIte, Nat.reduceEqDiff, Nat.reduceLT, List.filterMap_cons, List.filterMap_nil, Option.bind_some, Option.map_some, Option.bind_none, Option.map_none, List.getElem?_cons_zero, List.getElem?_cons_succ, List.contains_cons, List.contains_nil, List.map_cons, List.map_nil, Nat.reduceBEq, dbin, dIntBin, okR, callG, isLocal, isAlloc, loadsOwn, pureB, leaf, leafN, List.all_cons, List.all_nil, List.nil_append, List.append_nil, List.length_nil, List.length_cons, dun, dcells, isBar, allocKeys, takes, ptrArgs, callArgs, vroom, Option.isSome_none, stepTake, stepPtr, AVB]
    | (refine drW_intro (by kernel_rfl) ?_)
    | (refine gw_intro (fun h => ?_) (fun h => ?_) <;> (try simp only [beq_true, beq_false, Bool.not_eq_eq_eq_not, Bool.not_true, Bool.not_false, Bool.not_not, decide_eq_true_eq, decide_eq_false_iff_not, ge_iff_le, gt_iff_lt] at h)))
                    refine hr _ ?_
                    repeat' (first
    | simp only [*, put_slot, put_room, put_box, endQ, endR, endV, rvars, rvar, room1, ↓reduceIte, List.map_nil, pureB, leaf, leafN, List.take_nil, List.range_zero, and_self, notAgg]
    | (refine drW_intro (by kernel_rfl) ?_)
    | (refine gw_intro (fun h => ?_) (fun h => ?_) <;> (try simp only [beq_true, beq_false, Bool.not_eq_eq_eq_not, Bool.not_true, Bool.not_false, Bool.not_not, decide_eq_true_eq, decide_eq_false_iff_not, ge_iff_le, gt_iff_lt] at h)))
                  | true =>
                    cases e5 with
                    | true =>
                      simp only [Bool.not_true, Bool.false_and, Bool.true_and] at hO3
                      subst hO3
                      clear hn hx hl2 hx1
                      repeat' (first
    | simp only [*, guardG, opG, opD, inB, sval, stake, eats, eaters, get, cval, cval1, croom, St.taken, ↓reduceIte, Nat.reduceEqDiff, Nat.reduceLT, List.filterMap_cons, List.filterMap_nil, Option.bind_some, Option.map_some, Option.bind_none, Option.map_none, List.getElem?_cons_zero, List.getElem?_cons_succ, List.contains_cons, List.contains_nil, List.map_cons, List.map_nil, beq_self_eq_true, Nat.reduceBEq, dbin, dIntBin, okR, callG, isLocal, isAlloc, loadsOwn, pureB, leaf, leafN, List.all_cons, List.all_nil, List.nil_append, List.append_nil, List.length_nil, List.length_cons, dun, List.drop_zero, dcells, dopt, dbound, isBar, allocKeys, takes, ptrArgs, callArgs, vroom, Option.isSome_none, stepTake, stepPtr, List.drop_zero, AVB]
    | (refine drW_intro (by kernel_rfl) ?_)
    | (refine gw_intro (fun h => ?_) (fun h => ?_) <;> (try simp only [beq_true, beq_false, Bool.not_eq_eq_eq_not, Bool.not_true, Bool.not_false, Bool.not_not, decide_eq_true_eq, decide_eq_false_iff_not, ge_iff_le, gt_iff_lt] at h)))
                      refine hr _ ?_
                      repeat' (first
    | simp only [*, put_slot, put_room, put_box, endQ, endR, endV, rvars, rvar, room1, ↓reduceIte, List.map_nil, pureB, leaf, leafN, List.take_nil, List.range_zero, and_self, notAgg]
    | (refine drW_intro (by kernel_rfl) ?_)
    | (refine gw_intro (fun h => ?_) (fun h => ?_) <;> (try simp only [beq_true, beq_false, Bool.not_eq_eq_eq_not, Bool.not_true, Bool.not_false, Bool.not_not, decide_eq_true_eq, decide_eq_false_iff_not, ge_iff_le, gt_iff_lt] at h)))
                    | false =>
                      simp only [Bool.not_false, Bool.true_and] at hO3
                      have HO3 := Hd.mk hO3
                      clear hO3 hx hr hl2 hx1
                      repeat' (first
    | simp only [*, guardG, opG, opD, inB, sval, stake, eats, eaters, get, cval, cval1, croom, St.taken, ↓reduceIte, Nat.reduceEqDiff, Nat.reduceLT, List.filterMap_cons, List.filterMap_nil, Option.bind_some, Option.map_some, Option.bind_none, Option.map_none, List.getElem?_cons_zero, List.getElem?_cons_succ, List.contains_cons, List.contains_nil, List.map_cons, List.map_nil, beq_self_eq_true, Nat.reduceBEq, dbin, dIntBin, okR, callG, isLocal, isAlloc, loadsOwn, pureB, leaf, leafN, List.all_cons, List.all_nil, List.nil_append, List.append_nil, List.length_nil, List.length_cons, dun, List.drop_zero, dcells, dopt, dbound, isBar, allocKeys, takes, ptrArgs, callArgs, vroom, Option.isSome_none, stepTake, stepPtr, List.drop_zero, AVB]
    | (refine drW_intro (by kernel_rfl) ?_)
    | (refine gw_intro (fun h => ?_) (fun h => ?_) <;> (try simp only [beq_true, beq_false, Bool.not_eq_eq_eq_not, Bool.not_true, Bool.not_false, Bool.not_not, decide_eq_true_eq, decide_eq_false_iff_not, ge_iff_le, gt_iff_lt] at h)))
                      refine hn _ ⟨j + 1, h, ?_, ?_, ?_, ?_, ?_, ?_, HO3⟩ ?_
                      · simp only [*, put_slot, ↓reduceIte]
                      · simp only [*, put_slot, dem_slot, ↓reduceIte, reduceCtorEq]
                      · simp only [*, put_slot, dem_slot, ↓reduceIte, Nat.reduceEqDiff]
                      · simp only [*, put_box, dem_box]
                      · simp only [*, put_slot, dem_slot, ↓reduceIte, Nat.reduceEqDiff]
                      · simp only [*, put_room, dem_room, ↓reduceIte, Nat.reduceEqDiff]
                      · simp only [slotI, *, put_slot, ↓reduceIte, Int.toNat_natCast]
                        omega
                · have g9 : ¬ (j : Int) < ls.length := by omega
                  rw [statesG_end (by omega)] at hO3
                  subst hO3
                  clear hn hr hl2
                  repeat' (first
    | simp only [*, guardG, opG, inB, sval, stake, eats, eaters, get, St.taken, ↓reduceIte, Nat.reduceEqDiff, Nat.reduceLT, List.filterMap_cons, List.filterMap_nil, Option.map_some, Option.bind_none, List.getElem?_cons_zero, List.getElem?_cons_succ, List.contains_cons, List.contains_nil, Nat.reduceBEq, dbin, dIntBin, List.append_nil, takes, ptrArgs, callArgs, Option.isSome_none, AVB]
    | (refine drW_intro (by kernel_rfl) ?_)
    | (refine gw_intro (fun h => ?_) (fun h => ?_) <;> (try simp only [beq_true, beq_false, Bool.not_eq_eq_eq_not, Bool.not_true, Bool.not_false, Bool.not_not, decide_eq_true_eq, decide_eq_false_iff_not, ge_iff_le, gt_iff_lt] at h)))
                  refine hx _ _ ?_
                  repeat' (first
    | simp only [*, guardG, opG, inB, sval, stake, eats, eaters, get, cval, cval1, croom, endQ, endR, endV, rvars, rvar, room1, ↓reduceIte, Nat.reduceLT, List.filterMap_cons, List.filterMap_nil, List.contains_cons, List.contains_nil, List.map_nil, pureB, leaf, leafN, List.append_nil, List.take_nil, vroom, notAgg, AVB]
    | (refine drW_intro (by kernel_rfl) ?_)
    | (refine gw_intro (fun h => ?_) (fun h => ?_) <;> (try simp only [beq_true, beq_false, Bool.not_eq_eq_eq_not, Bool.not_true, Bool.not_false, Bool.not_not, decide_eq_true_eq, decide_eq_false_iff_not, ge_iff_le, gt_iff_lt] at h)))
set_option maxHeartbeats 64000000 in
theorem relm2_L (AH : List D) (p : Int) (sp nm : List UInt8) (la : List At) (ls : List (List UInt8)) (tx : List UInt8) (hn : BigN ⟨p, 1, sp, nm, la, ls, tx⟩) (h1 : ¬ p < -1) (h2' : ¬ (AH.length : Int) ≤ p) (h0 : ¬ 0 ≤ p) :
    callL Tryd.prog (ext11b chk) 27 [.list AH, .agg [.int .i64 p, .int .i64 1, .str sp, .str nm, .list (la.map At.d), .list (ls.map D.str), .str tx]] [] = some (.bool (elmF ⟨p, 1, sp, nm, la, ls, tx⟩), [.no], []) := by
  obtain ⟨s1, s2, s3, s4, s5, s6⟩ := hn
  have q1 := rright_L (chk := chk) nm s3
  have q2 := rright_L (chk := chk) sp s4
  clear s3 s4 s5
  have lA := lenM la At.d
  have lS := lenM ls D.str
  simp only [elmF]
  have H1 := Hd.mk s1
  have H2 := Hd.mk s2
  have H6 := Hd.mk s6
  clear s1 s2 s6
  cases c1 : (tx == []) with
  | false =>
    generalize la.map At.d = LA at *
    generalize ls.map D.str = LS at *
    generalize goodB nm = e1 at *
    generalize goodB sp = e2 at *
    refine callK (m := 185) (res := [4]) (rs := [.tmp 4]) rfl Tryd.func27 rfl rfl rfl rfl rfl ?_
    repeat' (first
    | simp only [*, guardG, opG, inB, sval, stake, eats, eaters, get, cval, cval1, croom, St.taken, endQ, endR, endV, rvars, rvar, room1, ↓reduceIte, Nat.reduceEqDiff, Nat.reduceLT, reduceCtorEq, List.filterMap_cons, List.filterMap_nil, Option.bind_some, Option.map_some, Option.bind_none, List.getElem?_cons_zero, List.getElem?_cons_succ, List.getD_cons_zero, List.getD_cons_succ, List.contains_cons, List.contains_nil, List.map_nil, beq_self_eq_true, dbin, dIntBin, okR, callG, pureB, leaf, leafN, List.all_cons, List.all_nil, List.nil_append, List.append_nil, List.take_nil, List.length_nil, List.length_cons, dun, List.getElem?_nil, dcells, Nat.reduceAdd, stepBox, ge_iff_le, dStrBin, Int.reduceBEq, Int.reduceBNe, takes, ptrArgs, callArgs, given, oroom, vroom, Option.isSome_none, stepTake, stepPtr, notAgg, ite_self, AVB]
    | (refine drW_intro (by kernel_rfl) ?_)
    | (refine gw_intro (fun h => ?_) (fun h => ?_) <;> (try simp only [beq_true, beq_false, Bool.not_eq_eq_eq_not, Bool.not_true, Bool.not_false, Bool.not_not, decide_eq_true_eq, decide_eq_false_iff_not, ge_iff_le, gt_iff_lt] at h)))
  | true =>
    have htx : tx = [] := by simpa using c1
    subst htx
    clear c1
    cases c2 : (nm == []) with
    | true =>
      generalize la.map At.d = LA at *
      generalize ls.map D.str = LS at *
      generalize goodB nm = e1 at *
      generalize goodB sp = e2 at *
      refine callK (m := 185) (res := [4]) (rs := [.tmp 4]) rfl Tryd.func27 rfl rfl rfl rfl rfl ?_
      repeat' (first
    | simp only [*, guardG, opG, inB, sval, stake, eats, eaters, get, cval, cval1, croom, St.taken, endQ, endR, endV, rvars, rvar, room1, ↓reduceIte, Nat.reduceEqDiff, Nat.reduceLT, reduceCtorEq, List.filterMap_cons, List.filterMap_nil, Option.bind_some, Option.map_some, Option.bind_none, List.getElem?_cons_zero, List.getElem?_cons_succ, List.getD_cons_zero, List.getD_cons_succ, List.contains_cons, List.contains_nil, List.map_nil, beq_self_eq_true, dbin, dIntBin, okR, callG, pureB, leaf, leafN, List.all_cons, List.all_nil, List.nil_append, List.append_nil, List.take_nil, List.length_nil, List.length_cons, dun, List.getElem?_nil, dcells, Nat.reduceAdd, stepBox, ge_iff_le, dStrBin, Int.reduceBEq, Int.reduceBNe, takes, ptrArgs, callArgs, given, oroom, vroom, Option.isSome_none, stepTake, stepPtr, notAgg, ite_self, AVB]
    | (refine drW_intro (by kernel_rfl) ?_)
    | (refine gw_intro (fun h => ?_) (fun h => ?_) <;> (try simp only [beq_true, beq_false, Bool.not_eq_eq_eq_not, Bool.not_true, Bool.not_false, Bool.not_not, decide_eq_true_eq, decide_eq_false_iff_not, ge_iff_le, gt_iff_lt] at h)))
    | false =>
      cases c3 : goodB nm with
      | false =>
        rw [c3] at q1
        generalize la.map At.d = LA at *
        generalize ls.map D.str = LS at *
        refine callK (m := 185) (res := [4]) (rs := [.tmp 4]) rfl Tryd.func27 rfl rfl rfl rfl rfl ?_
        repeat' (first
    | simp only [*, guardG, opG, inB, sval, stake, eats, eaters, get, cval, cval1, croom, St.taken, endQ, endR, endV, rvars, rvar, room1, ↓reduceIte, Nat.reduceEqDiff, Nat.reduceLT, reduceCtorEq, List.filterMap_cons, List.filterMap_nil, Option.bind_some, Option.map_some, Option.bind_none, List.getElem?_cons_zero, List.getElem?_cons_succ, List.getD_cons_zero, List.getD_cons_succ, List.contains_cons, List.contains_nil, List.map_cons, List.map_nil, beq_self_eq_true, dbin, dIntBin, okR, callG, pureB, leaf, leafN, List.all_cons, List.all_nil, List.nil_append, List.append_nil, List.take_nil, List.length_nil, List.length_cons, dun, List.getElem?_nil, dcells, Nat.reduceAdd, stepBox, ge_iff_le, dStrBin, Int.reduceBEq, Int.reduceBNe, takes, ptrArgs, callArgs, given, oroom, vroom, Option.isSome_none, stepTake, stepPtr, notAgg, ite_self, AVB]
    | (refine drW_intro (by kernel_rfl) ?_)
    | (refine gw_intro (fun h => ?_) (fun h => ?_) <;> (try simp only [beq_true, beq_false, Bool.not_eq_eq_eq_not, Bool.not_true, Bool.not_false, Bool.not_not, decide_eq_true_eq, decide_eq_false_iff_not, ge_iff_le, gt_iff_lt] at h)))
      | true =>
        cases c4 : goodB sp with
        | false =>
          rw [c3] at q1
          rw [c4] at q2
          generalize la.map At.d = LA at *
          generalize ls.map D.str = LS at *
          refine callK (m := 185) (res := [4]) (rs := [.tmp 4]) rfl Tryd.func27 rfl rfl rfl rfl rfl ?_
          repeat' (first
    | simp only [*, guardG, opG, inB, sval, stake, eats, eaters, get, cval, cval1, croom, St.taken, endQ, endR, endV, rvars, rvar, room1, ↓reduceIte, Nat.reduceEqDiff, Nat.reduceLT, reduceCtorEq, List.filterMap_cons, List.filterMap_nil, Option.bind_some, Option.map_some, Option.bind_none, List.getElem?_cons_zero, List.getElem?_cons_succ, List.getD_cons_zero, List.getD_cons_succ, List.contains_cons, List.contains_nil, List.map_cons, List.map_nil, beq_self_eq_true, dbin, dIntBin, okR, callG, pureB, leaf, leafN, List.all_cons, List.all_nil, List.nil_append, List.append_nil, List.take_nil, List.length_nil, List.length_cons, dun, List.getElem?_nil, dcells, Nat.reduceAdd, stepBox, ge_iff_le, dStrBin, Int.reduceBEq, Int.reduceBNe, takes, ptrArgs, callArgs, given, oroom, vroom, Option.isSome_none, stepTake, stepPtr, notAgg, ite_self, AVB]
    | (refine drW_intro (by kernel_rfl) ?_)
    | (refine gw_intro (fun h => ?_) (fun h => ?_) <;> (try simp only [beq_true, beq_false, Bool.not_eq_eq_eq_not, Bool.not_true, Bool.not_false, Bool.not_not, decide_eq_true_eq, decide_eq_false_iff_not, ge_iff_le, gt_iff_lt] at h)))
        | true =>
          rw [c3] at q1
          rw [c4] at q2
          clear c3 c4
          obtain ⟨R, hR⟩ : ∃ R, Hd (R = (attrsG (la.take 0) (la.drop 0) && statesB ls)) := ⟨_, rfl⟩
          rw [show (true && (!false && (true && (true && (attrsB la && statesB ls))))) = R from (show R = (attrsG (la.take 0) (la.drop 0) && statesB ls) from hR).symm]
          have b22 : ((1 : Int) == 2) = false := rfl
          have b33 : ((1 : Int) == 3) = false := rfl
          have b11 : ((1 : Int) != 1) = false := rfl
          refine callK (m := 185) (res := [4]) (rs := [.tmp 4]) rfl Tryd.func27 rfl rfl rfl rfl rfl ?_
          repeat' (first
    | simp only [*, guardG, opG, inB, sval, stake, eats, eaters, get, cval, cval1, croom, St.taken, ↓reduceIte, Nat.reduceEqDiff, Nat.reduceLT, reduceCtorEq, List.filterMap_cons, List.filterMap_nil, Option.bind_some, Option.map_some, Option.bind_none, List.getElem?_cons_zero, List.getElem?_cons_succ, List.getD_cons_zero, List.getD_cons_succ, List.contains_cons, List.contains_nil, List.map_cons, List.map_nil, beq_self_eq_true, dbin, dIntBin, okR, callG, pureB, leaf, leafN, List.all_cons, List.all_nil, List.nil_append, List.append_nil, List.length_nil, List.length_cons, dun, dcells, Nat.reduceAdd, stepBox, ge_iff_le, dStrBin, takes, ptrArgs, callArgs, given, oroom, vroom, Option.isSome_none, stepTake, stepPtr, AVB]
    | (refine drW_intro (by kernel_rfl) ?_)
    | (refine gw_intro (fun h => ?_) (fun h => ?_) <;> (try simp only [beq_true, beq_false, Bool.not_eq_eq_eq_not, Bool.not_true, Bool.not_false, Bool.not_not, decide_eq_true_eq, decide_eq_false_iff_not, ge_iff_le, gt_iff_lt] at h)))
          clear c2 q1 q2 h1 h2' h0
          refine loopH (fun st => ∃ i : Nat, i ≤ la.length ∧ st.slot 5 = .int .i64 i ∧ st.slot 0 = .list AH ∧ st.slot 3 = .ptr 3 1 0 ∧ st.box 3 = some ⟨1, [.int .i64 p, .int .i64 1, .str sp, .str nm, .list (la.map At.d), .list (ls.map D.str), .str []], [.no, .no, .no, .no, .no, .no, .no]⟩ ∧ st.slot 4 = .bool false ∧ st.room 4 = [] ∧ Hd (R = (attrsG (la.take i) (la.drop i) && statesB ls))) (fun st => la.length - slotI st 5) ?_ ?_
          · refine ⟨0, Nat.zero_le _, ?_, ?_, ?_, ?_, ?_, ?_, hR⟩
            all_goals simp only [*, put_slot, put_room, put_box, setBox_box, entry_slot, ↓reduceIte, Nat.reduceEqDiff, reduceCtorEq, List.getD_cons_zero, Option.some.injEq]
            all_goals rfl
          · rintro st K ⟨i, hi, g5, g0, g3, gb, g4, gr, hO⟩ hn hx hr
            have hl : la.length ≤ 140737488355328 := H1
            have hO' : R = (attrsG (la.take i) (la.drop i) && statesB ls) := hO
            clear hO
            by_cases h : i < la.length
            · have g9 : (i : Int) < la.length := by omega
              have hw := wrapS i (by omega)
              obtain ⟨x, hx1⟩ := some_at h
              obtain ⟨s1, s2, s3⟩ : BigA x := (show ∀ a ∈ la, BigA a from H6) x (List.mem_of_getElem? hx1)
              rw [attrsG_at hx1] at hO'
              have ha := getD_map (f := At.d) hx1
              obtain ⟨a1, a2, a3⟩ := x
              have ha2 : (la.map At.d).getD i .bad = .agg [.str a1, .str a2, .str a3] := ha
              clear ha hx1
              have r1 := rright_L (chk := chk) a1 s1
              have r2 := rright_L (chk := chk) a2 s2
              have r3 := rright_L (chk := chk) a3 s3
              simp only [atOk] at hO'
              generalize hrest : (attrsG (la.take (i + 1)) (la.drop (i + 1)) && statesB ls) = rest at *
              rw [Bool.and_assoc, hrest] at hO'
              have HREST := Hd.mk hrest
              clear hrest s1 s2 s3
              cases f0 : (a2 == []) with
              | true =>
                rw [f0] at hO'
                simp only [Bool.not_true, Bool.false_and] at hO'
                subst hO'
                generalize goodB a1 = e1 at *
                generalize goodB a2 = e2 at *
                generalize goodB a3 = e3 at *
                clear hn hx hl hR HREST
                repeat' (first
    | simp only [*, guardG, opG, inB, sval, stake, eats, eaters, get, cval, cval1, croom, St.taken, ↓reduceIte, Nat.reduceEqDiff, Nat.reduceLT, Nat.reduceLeDiff, List.filterMap_cons, List.filterMap_nil, Option.bind_some, Option.map_some, Option.bind_none, List.getElem?_cons_zero, List.getElem?_cons_succ, List.contains_cons, List.contains_nil, Nat.reduceBEq, dbin, dIntBin, okR, callG, pureB, leaf, leafN, List.all_cons, List.all_nil, List.nil_append, List.append_nil, List.length_nil, List.length_cons, dun, List.take_zero, List.drop_succ_cons, dcells, Nat.reduceAdd, stepBox, dStrBin, takes, ptrArgs, callArgs, given, oroom, vroom, Option.isSome_none, stepTake, stepPtr, List.drop_succ_cons, List.drop_nil, AVB]
    | (refine drW_intro (by kernel_rfl) ?_)
    | (refine gw_intro (fun h => ?_) (fun h => ?_) <;> (try simp only [beq_true, beq_false, Bool.not_eq_eq_eq_not, Bool.not_true, Bool.not_false, Bool.not_not, decide_eq_true_eq, decide_eq_false_iff_not, ge_iff_le, gt_iff_lt] at h)))
                refine hr _ ?_
                repeat' (first
    | simp only [*, put_slot, put_room, put_box, dem_box, setBox_box, endQ, endR, endV, rvars, rvar, room1, ↓reduceIte, List.map_nil, pureB, leaf, leafN, List.take_nil, List.range_zero, and_self, notAgg]
    | (refine drW_intro (by kernel_rfl) ?_)
    | (refine gw_intro (fun h => ?_) (fun h => ?_) <;> (try simp only [beq_true, beq_false, Bool.not_eq_eq_eq_not, Bool.not_true, Bool.not_false, Bool.not_not, decide_eq_true_eq, decide_eq_false_iff_not, ge_iff_le, gt_iff_lt] at h)))
              | false =>
                rw [f0] at hO'
                cases e2 : goodB a2 with
                | false =>
                  rw [e2] at hO' r2
                  simp only [Bool.not_false, Bool.false_and, Bool.and_false] at hO'
                  subst hO'
                  generalize goodB a1 = e1 at *
                  generalize goodB a3 = e3 at *
                  clear hn hx hl hR HREST
                  repeat' (first
    | simp only [*, guardG, opG, inB, sval, stake, eats, eaters, get, cval, cval1, croom, St.taken, ↓reduceIte, Nat.reduceEqDiff, Nat.reduceLT, Nat.reduceLeDiff, List.filterMap_cons, List.filterMap_nil, Option.bind_some, Option.map_some, Option.bind_none, List.getElem?_cons_zero, List.getElem?_cons_succ, List.contains_cons, List.contains_nil, List.map_cons, List.map_nil, beq_self_eq_true, Nat.reduceBEq, dbin, dIntBin, okR, callG, pureB, leaf, leafN, List.all_cons, List.all_nil, List.nil_append, List.append_nil, List.length_nil, List.length_cons, dun, List.take_zero, List.drop_succ_cons, dcells, Nat.reduceAdd, stepBox, dStrBin, takes, ptrArgs, callArgs, given, oroom, vroom, Option.isSome_none, stepTake, stepPtr, List.drop_succ_cons, List.drop_nil, AVB]
    | (refine drW_intro (by kernel_rfl) ?_)
    | (refine gw_intro (fun h => ?_) (fun h => ?_) <;> (try simp only [beq_true, beq_false, Bool.not_eq_eq_eq_not, Bool.not_true, Bool.not_false, Bool.not_not, decide_eq_true_eq, decide_eq_false_iff_not, ge_iff_le, gt_iff_lt] at h)))
                  refine hr _ ?_
                  repeat' (first
    | simp only [*, put_slot, put_room, put_box, dem_box, setBox_box, endQ, endR, endV, rvars, rvar, room1, ↓reduceIte, List.map_nil, pureB, leaf, leafN, List.take_nil, List.range_zero, and_self, notAgg]
    | (refine drW_intro (by kernel_rfl) ?_)
    | (refine gw_intro (fun h => ?_) (fun h => ?_) <;> (try simp only [beq_true, beq_false, Bool.not_eq_eq_eq_not, Bool.not_true, Bool.not_false, Bool.not_not, decide_eq_true_eq, decide_eq_false_iff_not, ge_iff_le, gt_iff_lt] at h)))
                | true =>
                  cases e1 : goodB a1 with
                  | false =>
                    rw [e1] at hO' r1
                    rw [e2] at r2
                    simp only [Bool.not_false, Bool.false_and, Bool.and_false] at hO'
                    subst hO'
                    generalize goodB a3 = e3 at *
                    clear hn hx hl hR HREST
                    repeat' (first
    | simp only [*, guardG, opG, inB, sval, stake, eats, eaters, get, cval, cval1, croom, St.taken, ↓reduceIte, Nat.reduceEqDiff, Nat.reduceLT, Nat.reduceLeDiff, List.filterMap_cons, List.filterMap_nil, Option.bind_some, Option.map_some, Option.bind_none, List.getElem?_cons_zero, List.getElem?_cons_succ, List.contains_cons, List.contains_nil, List.map_cons, List.map_nil, beq_self_eq_true, Nat.reduceBEq, dbin, dIntBin, okR, callG, pureB, leaf, leafN, List.all_cons, List.all_nil, List.nil_append, List.append_nil, List.length_nil, List.length_cons, dun, List.take_zero, List.drop_succ_cons, dcells, Nat.reduceAdd, stepBox, dStrBin, takes, ptrArgs, callArgs, given, oroom, vroom, Option.isSome_none, stepTake, stepPtr, List.drop_succ_cons, List.drop_nil, AVB]
    | (refine drW_intro (by kernel_rfl) ?_)
    | (refine gw_intro (fun h => ?_) (fun h => ?_) <;> (try simp only [beq_true, beq_false, Bool.not_eq_eq_eq_not, Bool.not_true, Bool.not_false, Bool.not_not, decide_eq_true_eq, decide_eq_false_iff_not, ge_iff_le, gt_iff_lt] at h)))
                    refine hr _ ?_
                    repeat' (first
    | simp only [*, put_slot, put_room, put_box, dem_box, setBox_box, endQ, endR, endV, rvars, rvar, room1, ↓reduceIte, List.map_nil, pureB, leaf, leafN, List.take_nil, List.range_zero, and_self, notAgg]
    | (refine drW_intro (by kernel_rfl) ?_)
    | (refine gw_intro (fun h => ?_) (fun h => ?_) <;> (try simp only [beq_true, beq_false, Bool.not_eq_eq_eq_not, Bool.not_true, Bool.not_false, Bool.not_not, decide_eq_true_eq, decide_eq_false_iff_not, ge_iff_le, gt_iff_lt] at h)))
                  | true =>
                    cases e3 : goodB a3 with
                    | false =>
                      rw [e3] at hO' r3
                      rw [e2] at r2
                      rw [e1] at r1
                      simp only [Bool.not_false, Bool.false_and, Bool.and_false] at hO'
                      subst hO'
                      clear hn hx hl hR HREST
                      repeat' (first
    | simp only [*, guardG, opG, inB, sval, stake, eats, eaters, get, cval, cval1, croom, St.taken, ↓reduceIte, Nat.reduceEqDiff, Nat.reduceLT, Nat.reduceLeDiff, List.filterMap_cons, List.filterMap_nil, Option.bind_some, Option.map_some, Option.bind_none, List.getElem?_cons_zero, List.getElem?_cons_succ, List.contains_cons, List.contains_nil, List.map_cons, List.map_nil, beq_self_eq_true, Nat.reduceBEq, dbin, dIntBin, okR, callG, pureB, leaf, leafN, List.all_cons, List.all_nil, List.nil_append, List.append_nil, List.length_nil, List.length_cons, dun, List.take_zero, List.drop_succ_cons, dcells, Nat.reduceAdd, stepBox, dStrBin, takes, ptrArgs, callArgs, given, oroom, vroom, Option.isSome_none, stepTake, stepPtr, List.drop_succ_cons, List.drop_nil, AVB]
    | (refine drW_intro (by kernel_rfl) ?_)
    | (refine gw_intro (fun h => ?_) (fun h => ?_) <;> (try simp only [beq_true, beq_false, Bool.not_eq_eq_eq_not, Bool.not_true, Bool.not_false, Bool.not_not, decide_eq_true_eq, decide_eq_false_iff_not, ge_iff_le, gt_iff_lt] at h)))
                      refine hr _ ?_
                      repeat' (first
    | simp only [*, put_slot, put_room, put_box, dem_box, setBox_box, endQ, endR, endV, rvars, rvar, room1, ↓reduceIte, List.map_nil, pureB, leaf, leafN, List.take_nil, List.range_zero, and_self, notAgg]
    | (refine drW_intro (by kernel_rfl) ?_)
    | (refine gw_intro (fun h => ?_) (fun h => ?_) <;> (try simp only [beq_true, beq_false, Bool.not_eq_eq_eq_not, Bool.not_true, Bool.not_false, Bool.not_not, decide_eq_true_eq, decide_eq_false_iff_not, ge_iff_le, gt_iff_lt] at h)))
                    | true =>
                      rw [e1] at r1 hO'
                      rw [e2] at r2 hO'
                      rw [e3] at r3 hO'
                      simp only [Bool.not_false, Bool.true_and] at hO'
                      have HO : Hd (R = (!(((la.take i).drop 0).any (sameN a1 a2)) && rest)) := hO'
                      clear hO' hx e1 e2 e3
                      repeat' (first
    | simp only [*, guardG, opG, inB, sval, stake, eats, eaters, get, cval, cval1, croom, St.taken, ↓reduceIte, Nat.reduceEqDiff, Nat.reduceLT, Nat.reduceLeDiff, List.filterMap_cons, List.filterMap_nil, Option.bind_some, Option.map_some, Option.bind_none, List.getElem?_cons_zero, List.getElem?_cons_succ, List.contains_cons, List.contains_nil, List.map_cons, List.map_nil, beq_self_eq_true, Nat.reduceBEq, dbin, dIntBin, okR, callG, pureB, leaf, leafN, List.all_cons, List.all_nil, List.nil_append, List.append_nil, List.length_nil, List.length_cons, dun, List.take_zero, List.drop_succ_cons, dcells, Nat.reduceAdd, stepBox, dStrBin, takes, ptrArgs, callArgs, given, oroom, vroom, Option.isSome_none, stepTake, stepPtr, List.drop_succ_cons, List.drop_nil, AVB]
    | (refine drW_intro (by kernel_rfl) ?_)
    | (refine gw_intro (fun h => ?_) (fun h => ?_) <;> (try simp only [beq_true, beq_false, Bool.not_eq_eq_eq_not, Bool.not_true, Bool.not_false, Bool.not_not, decide_eq_true_eq, decide_eq_false_iff_not, ge_iff_le, gt_iff_lt] at h)))
                      clear r1 r2 r3 f0 ha2
                      have HI := Hd.mk h
                      have G5 := Hd.mk g5
                      clear h g9 hl
                      refine loopH (fun st' => ∃ j g : Nat, j ≤ i ∧ st'.slot 7 = .int .i64 j ∧ st'.slot 5 = .int .i64 i ∧ st'.slot 0 = .list AH ∧ st'.slot 3 = .ptr 3 1 0 ∧ st'.box 3 = some ⟨1, [.int .i64 p, .int .i64 1, .str sp, .str nm, .list (la.map At.d), .list (ls.map D.str), .str []], [.no, .no, .no, .no, .no, .no, .no]⟩ ∧ st'.slot 6 = .ptr 6 g 0 ∧ st'.box 6 = some ⟨g, [.str a1, .str a2, .str a3], [.no, .no, .no]⟩ ∧ st'.slot 4 = .bool false ∧ st'.room 4 = [] ∧ Hd (R = (!(((la.take i).drop j).any (sameN a1 a2)) && rest))) (fun st' => i - slotI st' 7) ?_ ?_
                      · refine ⟨0, st.ctr 6, Nat.zero_le _, ?_, ?_, ?_, ?_, ?_, ?_, ?_, ?_, ?_, HO⟩
                        all_goals simp only [*, ↓reduceIte, Nat.reduceEqDiff, reduceCtorEq, AVB]
                        all_goals rfl
                      · clear g5 g0 g3 gb g4 gr
                        rintro st' K' ⟨j, g, hj, j7, j5, j0, j3, jb3, j6, jb6, j4, jr, hO2⟩ hn2 hx2 hr2
                        have hi2 : i < la.length := HI
                        have hl : la.length ≤ 140737488355328 := H1
                        have hO3 : R = (!(((la.take i).drop j).any (sameN a1 a2)) && rest) := hO2
                        clear hO2
                        by_cases h : j < i
                        · have m9 : (j : Int) < i := by omega
                          have m8 : (j : Int) < la.length := by omega
                          have hw2 := wrapS j (by omega)
                          obtain ⟨y, hy1⟩ := some_at (show j < la.length by omega)
                          rw [any_drop (sameN a1 a2) (by rw [take_at h]; exact hy1)] at hO3
                          have hb := getD_map (f := At.d) hy1
                          obtain ⟨b1, b2, b3⟩ := y
                          have hb2 : (la.map At.d).getD j .bad = .agg [.str b1, .str b2, .str b3] := hb
                          clear hb hy1 hi2
                          simp only [sameN] at hO3
                          cases d2 : (b2 == a2) with
                          | false =>
                            rw [d2] at hO3
                            simp only [Bool.and_false, Bool.false_or] at hO3
                            have HO4 : Hd (R = (!(((la.take i).drop (j + 1)).any (sameN a1 a2)) && rest)) := hO3
                            clear hO3 hr2 hx2 hn hr hl
                            repeat' (first
    | simp only [*, guardG, opG, opD, inB, sval, stake, eats, eaters, get, cval, cval1, croom, St.taken, ↓reduceIte, Nat.reduceEqDiff, Nat.reduceLT, List.filterMap_cons, List.filterMap_nil, Option.bind_some, Option.map_some, List.getElem?_cons_zero, List.getElem?_cons_succ, List.contains_cons, List.contains_nil, beq_self_eq_true, Nat.reduceBEq, dbin, dIntBin, isLocal, isAlloc, loadsOwn, List.nil_append, List.append_nil, List.length_nil, List.length_cons, dcells, Nat.reduceAdd, dStrBin, isBar, allocKeys, takes, vroom, stepTake, AVB]
    | (refine drW_intro (by kernel_rfl) ?_)
    | (refine gw_intro (fun h => ?_) (fun h => ?_) <;> (try simp only [beq_true, beq_false, Bool.not_eq_eq_eq_not, Bool.not_true, Bool.not_false, Bool.not_not, decide_eq_true_eq, decide_eq_false_iff_not, ge_iff_le, gt_iff_lt] at h)))
                            refine hn2 _ ⟨j + 1, g, h, ?_, ?_, ?_, ?_, ?_, ?_, ?_, ?_, ?_, HO4⟩ ?_
                            · simp only [*, put_slot, ↓reduceIte]
                            · simp only [*, put_slot, dem_slot, ↓reduceIte, Nat.reduceEqDiff]
                            · simp only [*, put_slot, dem_slot, ↓reduceIte, reduceCtorEq]
                            · simp only [*, put_slot, dem_slot, ↓reduceIte, Nat.reduceEqDiff]
                            · simp only [*, put_box, dem_box]
                            · simp only [*, put_slot, dem_slot, ↓reduceIte, Nat.reduceEqDiff]
                            · simp only [*, put_box, dem_box]
                            · simp only [*, put_slot, dem_slot, ↓reduceIte, Nat.reduceEqDiff]
                            · simp only [*, put_room, dem_room, ↓reduceIte, Nat.reduceEqDiff]
                            · simp only [slotI, *, put_slot, ↓reduceIte, Int.toNat_natCast]
                              omega
                          | true =>
                            cases d1 : (b1 == a1) with
                            | false =>
                              rw [d1] at hO3
                              simp only [Bool.false_and, Bool.false_or] at hO3
                              have HO4 : Hd (R = (!(((la.take i).drop (j + 1)).any (sameN a1 a2)) && rest)) := hO3
                              clear hO3 hr2 hx2 hn hr hl
                              repeat' (first
    | simp only [*, guardG, opG, opD, inB, sval, stake, eats, eaters, get, cval, cval1, croom, St.taken, ↓reduceIte, Nat.reduceEqDiff, Nat.reduceLT, List.filterMap_cons, List.filterMap_nil, Option.bind_some, Option.map_some, List.getElem?_cons_zero, List.getElem?_cons_succ, List.contains_cons, List.contains_nil, beq_self_eq_true, Nat.reduceBEq, dbin, dIntBin, isLocal, isAlloc, loadsOwn, List.nil_append, List.append_nil, List.length_nil, List.length_cons, dcells, Nat.reduceAdd, dStrBin, isBar, allocKeys, takes, vroom, stepTake, AVB]
    | (refine drW_intro (by kernel_rfl) ?_)
    | (refine gw_intro (fun h => ?_) (fun h => ?_) <;> (try simp only [beq_true, beq_false, Bool.not_eq_eq_eq_not, Bool.not_true, Bool.not_false, Bool.not_not, decide_eq_true_eq, decide_eq_false_iff_not, ge_iff_le, gt_iff_lt] at h)))
                              refine hn2 _ ⟨j + 1, g, h, ?_, ?_, ?_, ?_, ?_, ?_, ?_, ?_, ?_, HO4⟩ ?_
                              · simp only [*, put_slot, ↓reduceIte]
                              · simp only [*, put_slot, dem_slot, ↓reduceIte, Nat.reduceEqDiff]
                              · simp only [*, put_slot, dem_slot, ↓reduceIte, reduceCtorEq]
                              · simp only [*, put_slot, dem_slot, ↓reduceIte, Nat.reduceEqDiff]
                              · simp only [*, put_box, dem_box]
                              · simp only [*, put_slot, dem_slot, ↓reduceIte, Nat.reduceEqDiff]
                              · simp only [*, put_box, dem_box]
                              · simp only [*, put_slot, dem_slot, ↓reduceIte, Nat.reduceEqDiff]
                              · simp only [*, put_room, dem_room, ↓reduceIte, Nat.reduceEqDiff]
                              · simp only [slotI, *, put_slot, ↓reduceIte, Int.toNat_natCast]
                                omega
                            | true =>
                              rw [d1, d2] at hO3
                              simp only [Bool.and_true, Bool.true_or, Bool.not_true, Bool.false_and] at hO3
                              subst hO3
                              clear hn2 hx2 hR hn hl HREST
                              repeat' (first
    | simp only [*, guardG, opG, opD, inB, sval, stake, eats, eaters, get, cval, cval1, croom, St.taken, ↓reduceIte, Nat.reduceEqDiff, Nat.reduceLT, List.filterMap_cons, List.filterMap_nil, Option.bind_some, Option.map_some, List.getElem?_cons_zero, List.getElem?_cons_succ, List.contains_cons, List.contains_nil, beq_self_eq_true, Nat.reduceBEq, dbin, dIntBin, isLocal, isAlloc, loadsOwn, List.nil_append, List.append_nil, List.length_nil, List.length_cons, dcells, Nat.reduceAdd, dStrBin, isBar, allocKeys, takes, vroom, stepTake, AVB]
    | (refine drW_intro (by kernel_rfl) ?_)
    | (refine gw_intro (fun h => ?_) (fun h => ?_) <;> (try simp only [beq_true, beq_false, Bool.not_eq_eq_eq_not, Bool.not_true, Bool.not_false, Bool.not_not, decide_eq_true_eq, decide_eq_false_iff_not, ge_iff_le, gt_iff_lt] at h)))
                              refine hr2 _ ?_
                              refine hr _ ?_
                              repeat' (first
    | simp only [*, put_slot, put_room, put_box, endQ, endR, endV, rvars, rvar, room1, ↓reduceIte, List.map_nil, pureB, leaf, leafN, List.take_nil, List.range_zero, and_self, notAgg]
    | (refine drW_intro (by kernel_rfl) ?_)
    | (refine gw_intro (fun h => ?_) (fun h => ?_) <;> (try simp only [beq_true, beq_false, Bool.not_eq_eq_eq_not, Bool.not_true, Bool.not_false, Bool.not_not, decide_eq_true_eq, decide_eq_false_iff_not, ge_iff_le, gt_iff_lt] at h)))
                        · have m9 : ¬ (j : Int) < i := by omega
                          rw [any_end (sameN a1 a2) (by rw [List.length_take]; omega)] at hO3
                          simp only [Bool.not_false, Bool.true_and] at hO3
                          have HO4 : Hd (R = (attrsG (la.take (i + 1)) (la.drop (i + 1)) && statesB ls)) := by
                            have e : (attrsG (la.take (i + 1)) (la.drop (i + 1)) && statesB ls) = rest := HREST
                            rw [e]
                            exact hO3
                          clear hO3 hr2 hn2 hr hl
                          repeat' (first
    | simp only [*, guardG, opG, inB, sval, stake, eats, eaters, get, St.taken, ↓reduceIte, Nat.reduceEqDiff, Nat.reduceLT, List.filterMap_cons, List.filterMap_nil, Option.map_some, List.contains_cons, List.contains_nil, Nat.reduceBEq, dbin, dIntBin, List.append_nil, AVB]
    | (refine drW_intro (by kernel_rfl) ?_)
    | (refine gw_intro (fun h => ?_) (fun h => ?_) <;> (try simp only [beq_true, beq_false, Bool.not_eq_eq_eq_not, Bool.not_true, Bool.not_false, Bool.not_not, decide_eq_true_eq, decide_eq_false_iff_not, ge_iff_le, gt_iff_lt] at h)))
                          refine hx2 _ _ ?_
                          repeat' (first
    | simp only [*, guardG, opG, inB, sval, stake, eats, eaters, get, cval, cval1, St.taken, ↓reduceIte, Nat.reduceEqDiff, Nat.reduceLT, List.filterMap_cons, List.filterMap_nil, Option.map_some, List.contains_cons, List.contains_nil, beq_self_eq_true, Nat.reduceBEq, dbin, dIntBin, List.append_nil, AVB]
    | (refine drW_intro (by kernel_rfl) ?_)
    | (refine gw_intro (fun h => ?_) (fun h => ?_) <;> (try simp only [beq_true, beq_false, Bool.not_eq_eq_eq_not, Bool.not_true, Bool.not_false, Bool.not_not, decide_eq_true_eq, decide_eq_false_iff_not, ge_iff_le, gt_iff_lt] at h)))
                          refine hn _ ⟨i + 1, hi2, ?_, ?_, ?_, ?_, ?_, ?_, HO4⟩ ?_
                          · simp only [*, put_slot, ↓reduceIte]
                          · simp only [*, put_slot, dem_slot, ↓reduceIte, reduceCtorEq]
                          · simp only [*, put_slot, dem_slot, ↓reduceIte, Nat.reduceEqDiff]
                          · simp only [*, put_box, dem_box]
                          · simp only [*, put_slot, dem_slot, ↓reduceIte, Nat.reduceEqDiff]
                          · simp only [*, put_room, dem_room, ↓reduceIte, Nat.reduceEqDiff]
                          · have g5 : st.slot 5 = .int .i64 i := G5
                            simp only [slotI, *, put_slot, ↓reduceIte, Int.toNat_natCast, gt_iff_lt]
                            omega
            · have g9 : ¬ (i : Int) < la.length := by omega
              rw [attrsG_end (by omega), Bool.true_and] at hO'
              have HO : Hd (R = statesG (ls.take 0) (ls.drop 0)) := hO'
              clear hO' hn hr hl hR
              repeat' (first
    | simp only [*, guardG, opG, inB, sval, stake, eats, eaters, get, St.taken, ↓reduceIte, Nat.reduceEqDiff, Nat.reduceLT, List.filterMap_cons, List.filterMap_nil, Option.map_some, Option.bind_none, List.getElem?_cons_zero, List.getElem?_cons_succ, List.contains_cons, List.contains_nil, Nat.reduceBEq, dbin, dIntBin, List.append_nil, takes, ptrArgs, callArgs, Option.isSome_none, AVB]
    | (refine drW_intro (by kernel_rfl) ?_)
    | (refine gw_intro (fun h => ?_) (fun h => ?_) <;> (try simp only [beq_true, beq_false, Bool.not_eq_eq_eq_not, Bool.not_true, Bool.not_false, Bool.not_not, decide_eq_true_eq, decide_eq_false_iff_not, ge_iff_le, gt_iff_lt] at h)))
              refine hx _ _ ?_
              repeat' (first
    | simp only [*, guardG, opG, inB, sval, stake, eats, eaters, get, cval, cval1, croom, ↓reduceIte, Nat.reduceLT, List.filterMap_cons, List.filterMap_nil, List.contains_cons, List.contains_nil, List.append_nil, vroom, AVB]
    | (refine drW_intro (by kernel_rfl) ?_)
    | (refine gw_intro (fun h => ?_) (fun h => ?_) <;> (try simp only [beq_true, beq_false, Bool.not_eq_eq_eq_not, Bool.not_true, Bool.not_false, Bool.not_not, decide_eq_true_eq, decide_eq_false_iff_not, ge_iff_le, gt_iff_lt] at h)))
              have HX := Hd.mk hx
              clear hx g9 h hi
              refine loopH (fun st' => ∃ j : Nat, j ≤ ls.length ∧ st'.slot 8 = .int .i64 j ∧ st'.slot 0 = .list AH ∧ st'.slot 3 = .ptr 3 1 0 ∧ st'.box 3 = some ⟨1, [.int .i64 p, .int .i64 1, .str sp, .str nm, .list (la.map At.d), .list (ls.map D.str), .str []], [.no, .no, .no, .no, .no, .no, .no]⟩ ∧ st'.slot 4 = .bool false ∧ st'.room 4 = [] ∧ Hd (R = statesG (ls.take j) (ls.drop j))) (fun st' => ls.length - slotI st' 8) ?_ ?_
              · refine ⟨0, Nat.zero_le _, ?_, ?_, ?_, ?_, ?_, ?_, HO⟩
                all_goals simp only [*, put_slot, put_room, put_box, ↓reduceIte, Nat.reduceEqDiff, reduceCtorEq]
                all_goals rfl
              · clear g5 g0 g3 gb g4 gr
                rintro st' K' ⟨j, hj, g8, g0, g3, gb, g4, gr, hO2⟩ hn hx hr
                have hl2 : ls.length ≤ 140737488355328 := H2
                have hO3 : R = statesG (ls.take j) (ls.drop j) := hO2
                clear hO2
                by_cases h : j < ls.length
                · have g9 : (j : Int) < ls.length := by omega
                  have hw := wrapS j (by omega)
                  obtain ⟨x, hx1⟩ := some_at h
                  rw [statesG_at hx1] at hO3
                  have ha := getD_map (f := D.str) hx1
                  have u1 := rstate_L (chk := chk) x
                  have u2 : callL Tryd.prog (ext11b chk) 45 [.list ((ls.map D.str).take j), .str x] [] = some (.bool ((ls.take j).contains x), [.no], []) := by
                    rw [← List.map_take]
                    exact has_L (ls.take j) x (by rw [List.length_take]; omega)
                  have sz := szS ls
                  have gle : (j : Int) ≤ ls.length := by omega
                  generalize (ls.take j).contains x = e5 at *
                  generalize stS.contains x = e1 at *
                  cases e1 with
                  | false =>
                    simp only [Bool.false_and] at hO3
                    subst hO3
                    clear hn hx hl2 hx1 sz
                    repeat' (first
    | simp only [*, guardG, opG, opD, inB, sval, stake, eats, eaters, get, cval, cval1, croom, St.taken, ↓reduceIte, Nat.reduceEqDiff, Nat.reduceLT, List.filterMap_cons, List.filterMap_nil, Option.bind_some, Option.map_some, Option.bind_none, Option.map_none, List.getElem?_cons_zero, List.getElem?_cons_succ, List.contains_cons, List.contains_nil, List.map_cons, List.map_nil, Nat.reduceBEq, dbin, dIntBin, okR, callG, isLocal, isAlloc, loadsOwn, pureB, leaf, leafN, List.all_cons, List.all_nil, List.nil_append, List.append_nil, List.length_nil, List.length_cons, dun, dcells, isBar, allocKeys, takes, ptrArgs, callArgs, vroom, Option.isSome_none, stepTake, stepPtr, AVB]
    | (refine drW_intro (by kernel_rfl) ?_)
    | (refine gw_intro (fun h => ?_) (fun h => ?_) <;> (try simp only [beq_true, beq_false, Bool.not_eq_eq_eq_not, Bool.not_true, Bool.not_false, Bool.not_not, decide_eq_true_eq, decide_eq_false_iff_not, ge_iff_le, gt_iff_lt] at h)))
                    refine hr _ ?_
                    repeat' (first
    | simp only [*, put_slot, put_room, put_box, endQ, endR, endV, rvars, rvar, room1, ↓reduceIte, List.map_nil, pureB, leaf, leafN, List.take_nil, List.range_zero, and_self, notAgg]
    | (refine drW_intro (by kernel_rfl) ?_)
    | (refine gw_intro (fun h => ?_) (fun h => ?_) <;> (try simp only [beq_true, beq_false, Bool.not_eq_eq_eq_not, Bool.not_true, Bool.not_false, Bool.not_not, decide_eq_true_eq, decide_eq_false_iff_not, ge_iff_le, gt_iff_lt] at h)))
                  | true =>
                    cases e5 with
                    | true =>
                      simp only [Bool.not_true, Bool.false_and, Bool.true_and] at hO3
                      subst hO3
                      clear hn hx hl2 hx1
                      repeat' (first
    | simp only [*, guardG, opG, opD, inB, sval, stake, eats, eaters, get, cval, cval1, croom, St.taken, ↓reduceIte, Nat.reduceEqDiff, Nat.reduceLT, List.filterMap_cons, List.filterMap_nil, Option.bind_some, Option.map_some, Option.bind_none, Option.map_none, List.getElem?_cons_zero, List.getElem?_cons_succ, List.contains_cons, List.contains_nil, List.map_cons, List.map_nil, beq_self_eq_true, Nat.reduceBEq, dbin, dIntBin, okR, callG, isLocal, isAlloc, loadsOwn, pureB, leaf, leafN, List.all_cons, List.all_nil, List.nil_append, List.append_nil, List.length_nil, List.length_cons, dun, List.drop_zero, dcells, dopt, dbound, isBar, allocKeys, takes, ptrArgs, callArgs, vroom, Option.isSome_none, stepTake, stepPtr, List.drop_zero, AVB]
    | (refine drW_intro (by kernel_rfl) ?_)
    | (refine gw_intro (fun h => ?_) (fun h => ?_) <;> (try simp only [beq_true, beq_false, Bool.not_eq_eq_eq_not, Bool.not_true, Bool.not_false, Bool.not_not, decide_eq_true_eq, decide_eq_false_iff_not, ge_iff_le, gt_iff_lt] at h)))
                      refine hr _ ?_
                      repeat' (first
    | simp only [*, put_slot, put_room, put_box, endQ, endR, endV, rvars, rvar, room1, ↓reduceIte, List.map_nil, pureB, leaf, leafN, List.take_nil, List.range_zero, and_self, notAgg]
    | (refine drW_intro (by kernel_rfl) ?_)
    | (refine gw_intro (fun h => ?_) (fun h => ?_) <;> (try simp only [beq_true, beq_false, Bool.not_eq_eq_eq_not, Bool.not_true, Bool.not_false, Bool.not_not, decide_eq_true_eq, decide_eq_false_iff_not, ge_iff_le, gt_iff_lt] at h)))
                    | false =>
                      simp only [Bool.not_false, Bool.true_and] at hO3
                      have HO3 := Hd.mk hO3
                      clear hO3 hx hr hl2 hx1
                      repeat' (first
    | simp only [*, guardG, opG, opD, inB, sval, stake, eats, eaters, get, cval, cval1, croom, St.taken, ↓reduceIte, Nat.reduceEqDiff, Nat.reduceLT, List.filterMap_cons, List.filterMap_nil, Option.bind_some, Option.map_some, Option.bind_none, Option.map_none, List.getElem?_cons_zero, List.getElem?_cons_succ, List.contains_cons, List.contains_nil, List.map_cons, List.map_nil, beq_self_eq_true, Nat.reduceBEq, dbin, dIntBin, okR, callG, isLocal, isAlloc, loadsOwn, pureB, leaf, leafN, List.all_cons, List.all_nil, List.nil_append, List.append_nil, List.length_nil, List.length_cons, dun, List.drop_zero, dcells, dopt, dbound, isBar, allocKeys, takes, ptrArgs, callArgs, vroom, Option.isSome_none, stepTake, stepPtr, List.drop_zero, AVB]
    | (refine drW_intro (by kernel_rfl) ?_)
    | (refine gw_intro (fun h => ?_) (fun h => ?_) <;> (try simp only [beq_true, beq_false, Bool.not_eq_eq_eq_not, Bool.not_true, Bool.not_false, Bool.not_not, decide_eq_true_eq, decide_eq_false_iff_not, ge_iff_le, gt_iff_lt] at h)))
                      refine hn _ ⟨j + 1, h, ?_, ?_, ?_, ?_, ?_, ?_, HO3⟩ ?_
                      · simp only [*, put_slot, ↓reduceIte]
                      · simp only [*, put_slot, dem_slot, ↓reduceIte, reduceCtorEq]
                      · simp only [*, put_slot, dem_slot, ↓reduceIte, Nat.reduceEqDiff]
                      · simp only [*, put_box, dem_box]
                      · simp only [*, put_slot, dem_slot, ↓reduceIte, Nat.reduceEqDiff]
                      · simp only [*, put_room, dem_room, ↓reduceIte, Nat.reduceEqDiff]
                      · simp only [slotI, *, put_slot, ↓reduceIte, Int.toNat_natCast]
                        omega
                · have g9 : ¬ (j : Int) < ls.length := by omega
                  rw [statesG_end (by omega)] at hO3
                  subst hO3
                  clear hn hr hl2
                  repeat' (first
    | simp only [*, guardG, opG, inB, sval, stake, eats, eaters, get, St.taken, ↓reduceIte, Nat.reduceEqDiff, Nat.reduceLT, List.filterMap_cons, List.filterMap_nil, Option.map_some, Option.bind_none, List.getElem?_cons_zero, List.getElem?_cons_succ, List.contains_cons, List.contains_nil, Nat.reduceBEq, dbin, dIntBin, List.append_nil, takes, ptrArgs, callArgs, Option.isSome_none, AVB]
    | (refine drW_intro (by kernel_rfl) ?_)
    | (refine gw_intro (fun h => ?_) (fun h => ?_) <;> (try simp only [beq_true, beq_false, Bool.not_eq_eq_eq_not, Bool.not_true, Bool.not_false, Bool.not_not, decide_eq_true_eq, decide_eq_false_iff_not, ge_iff_le, gt_iff_lt] at h)))
                  refine hx _ _ ?_
                  repeat' (first
    | simp only [*, guardG, opG, inB, sval, stake, eats, eaters, get, cval, cval1, croom, endQ, endR, endV, rvars, rvar, room1, ↓reduceIte, Nat.reduceLT, List.filterMap_cons, List.filterMap_nil, List.contains_cons, List.contains_nil, List.map_nil, pureB, leaf, leafN, List.append_nil, List.take_nil, vroom, notAgg, AVB]
    | (refine drW_intro (by kernel_rfl) ?_)
    | (refine gw_intro (fun h => ?_) (fun h => ?_) <;> (try simp only [beq_true, beq_false, Bool.not_eq_eq_eq_not, Bool.not_true, Bool.not_false, Bool.not_not, decide_eq_true_eq, decide_eq_false_iff_not, ge_iff_le, gt_iff_lt] at h)))
set_option maxHeartbeats 16000000 in
theorem rbody_L (ahead : List Nd) (n : Nd) (hn : BigN n) (h : parOk ahead n.p = true) : callL Tryd.prog (ext11b chk) 27 [.list (ahead.map Nd.d), n.d] [] = some (.bool (bodyF n), [.no], []) := by
  obtain ⟨p, k, sp, nm, la, ls, tx⟩ := n
  have lN := lenM ahead Nd.d
  unfold parOk at h
  simp only [Bool.and_eq_true, Bool.not_eq_eq_eq_not, Bool.not_true, decide_eq_false_iff_not] at h
  obtain ⟨h1, h2, h3⟩ := h
  simp only [bodyF, txtF, Nd.d]
  by_cases h0 : 0 ≤ p
  · obtain ⟨p', k', sp', nm', la', ls', tx', ha, hk⟩ := kind_at (ahead := ahead) h0 (by omega)
    rw [hk] at h3
    have h5 : ¬ p < 0 := by omega
    have h4 : (k' != 1) = false := by simpa [h0] using h3
    clear h3 hk
    generalize ahead.map Nd.d = AH at *
    have gp : p < AH.length := by omega
    have h2' : ¬ (AH.length : Int) ≤ p := by omega
    clear lN h2
    by_cases k1 : k = 1
    · subst k1
      rw [if_pos rfl]
      exact relm1_L AH p sp nm la ls tx hn h1 h2' h0 gp p' k' sp' nm' la' ls' tx' ha h4
    · obtain ⟨s1, s2, s3, s4, s5, s6⟩ := hn
      have q3 := rright_L (chk := chk) tx s5
      have lA := lenM la At.d
      have lS := lenM ls D.str
      clear s1 s2 s3 s4 s5 s6
      generalize goodB tx = e3 at *
      generalize la.map At.d = LA at *
      generalize ls.map D.str = LS at *
      by_cases k2 : k = 2
      · subst k2
        cases c1 : (sp == []) with
        | false =>
          refine callK (m := 185) (res := [4]) (rs := [.tmp 4]) rfl Tryd.func27 rfl rfl rfl rfl rfl ?_
          repeat' (first
    | simp only [*, guardG, opG, inB, sval, stake, eats, eaters, get, cval, cval1, croom, St.taken, endQ, endR, endV, rvars, rvar, room1, ↓reduceIte, Nat.reduceEqDiff, Nat.reduceLT, reduceCtorEq, List.filterMap_cons, List.filterMap_nil, Option.bind_some, Option.map_some, Option.bind_none, List.getElem?_cons_zero, List.getElem?_cons_succ, List.getD_cons_zero, List.getD_cons_succ, List.contains_cons, List.contains_nil, List.map_nil, beq_self_eq_true, Nat.reduceBEq, dbin, dIntBin, okR, callG, pureB, leaf, leafN, List.all_cons, List.all_nil, List.nil_append, List.append_nil, List.take_nil, List.length_nil, List.length_cons, List.getElem?_nil, dcells, Nat.reduceAdd, stepBox, ge_iff_le, dStrBin, takes, ptrArgs, callArgs, given, oroom, vroom, Option.isSome_none, stepTake, stepPtr, notAgg, ite_self, AVB]
    | (refine drW_intro (by kernel_rfl) ?_)
    | (refine gw_intro (fun h => ?_) (fun h => ?_) <;> (try simp only [beq_true, beq_false, Bool.not_eq_eq_eq_not, Bool.not_true, Bool.not_false, Bool.not_not, decide_eq_true_eq, decide_eq_false_iff_not, ge_iff_le, gt_iff_lt] at h)))
        | true =>
          cases c2 : (nm == []) with
          | false =>
            refine callK (m := 185) (res := [4]) (rs := [.tmp 4]) rfl Tryd.func27 rfl rfl rfl rfl rfl ?_
            repeat' (first
    | simp only [*, guardG, opG, inB, sval, stake, eats, eaters, get, cval, cval1, croom, St.taken, endQ, endR, endV, rvars, rvar, room1, ↓reduceIte, Nat.reduceEqDiff, Nat.reduceLT, reduceCtorEq, List.filterMap_cons, List.filterMap_nil, Option.bind_some, Option.map_some, Option.bind_none, List.getElem?_cons_zero, List.getElem?_cons_succ, List.getD_cons_zero, List.getD_cons_succ, List.contains_cons, List.contains_nil, List.map_nil, beq_self_eq_true, Nat.reduceBEq, dbin, dIntBin, okR, callG, pureB, leaf, leafN, List.all_cons, List.all_nil, List.nil_append, List.append_nil, List.take_nil, List.length_nil, List.length_cons, List.getElem?_nil, dcells, Nat.reduceAdd, stepBox, ge_iff_le, dStrBin, takes, ptrArgs, callArgs, given, oroom, vroom, Option.isSome_none, stepTake, stepPtr, notAgg, ite_self, AVB]
    | (refine drW_intro (by kernel_rfl) ?_)
    | (refine gw_intro (fun h => ?_) (fun h => ?_) <;> (try simp only [beq_true, beq_false, Bool.not_eq_eq_eq_not, Bool.not_true, Bool.not_false, Bool.not_not, decide_eq_true_eq, decide_eq_false_iff_not, ge_iff_le, gt_iff_lt] at h)))
          | true =>
            cases c3 : ((la.length : Int) == 0) with
            | false =>
              refine callK (m := 185) (res := [4]) (rs := [.tmp 4]) rfl Tryd.func27 rfl rfl rfl rfl rfl ?_
              repeat' (first
    | simp only [*, guardG, opG, inB, sval, stake, eats, eaters, get, cval, cval1, croom, St.taken, endQ, endR, endV, rvars, rvar, room1, ↓reduceIte, Nat.reduceEqDiff, Nat.reduceLT, reduceCtorEq, List.filterMap_cons, List.filterMap_nil, Option.bind_some, Option.map_some, Option.bind_none, List.getElem?_cons_zero, List.getElem?_cons_succ, List.getD_cons_zero, List.getD_cons_succ, List.contains_cons, List.contains_nil, List.map_nil, beq_self_eq_true, Nat.reduceBEq, dbin, dIntBin, okR, callG, pureB, leaf, leafN, List.all_cons, List.all_nil, List.nil_append, List.append_nil, List.take_nil, List.length_nil, List.length_cons, List.getElem?_nil, dcells, Nat.reduceAdd, stepBox, ge_iff_le, dStrBin, takes, ptrArgs, callArgs, given, oroom, vroom, Option.isSome_none, stepTake, stepPtr, notAgg, ite_self, AVB]
    | (refine drW_intro (by kernel_rfl) ?_)
    | (refine gw_intro (fun h => ?_) (fun h => ?_) <;> (try simp only [beq_true, beq_false, Bool.not_eq_eq_eq_not, Bool.not_true, Bool.not_false, Bool.not_not, decide_eq_true_eq, decide_eq_false_iff_not, ge_iff_le, gt_iff_lt] at h)))
            | true =>
              cases c4 : ((ls.length : Int) == 0) with
              | false =>
                refine callK (m := 185) (res := [4]) (rs := [.tmp 4]) rfl Tryd.func27 rfl rfl rfl rfl rfl ?_
                repeat' (first
    | simp only [*, guardG, opG, inB, sval, stake, eats, eaters, get, cval, cval1, croom, St.taken, endQ, endR, endV, rvars, rvar, room1, ↓reduceIte, Nat.reduceEqDiff, Nat.reduceLT, reduceCtorEq, List.filterMap_cons, List.filterMap_nil, Option.bind_some, Option.map_some, Option.bind_none, List.getElem?_cons_zero, List.getElem?_cons_succ, List.getD_cons_zero, List.getD_cons_succ, List.contains_cons, List.contains_nil, List.map_nil, beq_self_eq_true, Nat.reduceBEq, dbin, dIntBin, okR, callG, pureB, leaf, leafN, List.all_cons, List.all_nil, List.nil_append, List.append_nil, List.take_nil, List.length_nil, List.length_cons, List.getElem?_nil, dcells, Nat.reduceAdd, stepBox, ge_iff_le, dStrBin, takes, ptrArgs, callArgs, given, oroom, vroom, Option.isSome_none, stepTake, stepPtr, notAgg, ite_self, AVB]
    | (refine drW_intro (by kernel_rfl) ?_)
    | (refine gw_intro (fun h => ?_) (fun h => ?_) <;> (try simp only [beq_true, beq_false, Bool.not_eq_eq_eq_not, Bool.not_true, Bool.not_false, Bool.not_not, decide_eq_true_eq, decide_eq_false_iff_not, ge_iff_le, gt_iff_lt] at h)))
              | true =>
                cases e3 with
                | false =>
                  refine callK (m := 185) (res := [4]) (rs := [.tmp 4]) rfl Tryd.func27 rfl rfl rfl rfl rfl ?_
                  repeat' (first
    | simp only [*, guardG, opG, inB, sval, stake, eats, eaters, get, cval, cval1, croom, St.taken, endQ, endR, endV, rvars, rvar, room1, ↓reduceIte, Nat.reduceEqDiff, Nat.reduceLT, reduceCtorEq, List.filterMap_cons, List.filterMap_nil, Option.bind_some, Option.map_some, Option.bind_none, List.getElem?_cons_zero, List.getElem?_cons_succ, List.getD_cons_zero, List.getD_cons_succ, List.contains_cons, List.contains_nil, List.map_cons, List.map_nil, beq_self_eq_true, Nat.reduceBEq, dbin, dIntBin, okR, callG, pureB, leaf, leafN, List.all_cons, List.all_nil, List.nil_append, List.append_nil, List.take_nil, List.length_nil, List.length_cons, List.getElem?_nil, dcells, Nat.reduceAdd, stepBox, ge_iff_le, dStrBin, takes, ptrArgs, callArgs, given, oroom, vroom, Option.isSome_none, stepTake, stepPtr, notAgg, ite_self, AVB]
    | (refine drW_intro (by kernel_rfl) ?_)
    | (refine gw_intro (fun h => ?_) (fun h => ?_) <;> (try simp only [beq_true, beq_false, Bool.not_eq_eq_eq_not, Bool.not_true, Bool.not_false, Bool.not_not, decide_eq_true_eq, decide_eq_false_iff_not, ge_iff_le, gt_iff_lt] at h)))
                | true =>
                  refine callK (m := 185) (res := [4]) (rs := [.tmp 4]) rfl Tryd.func27 rfl rfl rfl rfl rfl ?_
                  repeat' (first
    | simp only [*, guardG, opG, inB, sval, stake, eats, eaters, get, cval, cval1, croom, St.taken, endQ, endR, endV, rvars, rvar, room1, ↓reduceIte, Nat.reduceEqDiff, Nat.reduceLT, reduceCtorEq, List.filterMap_cons, List.filterMap_nil, Option.bind_some, Option.map_some, Option.bind_none, List.getElem?_cons_zero, List.getElem?_cons_succ, List.getD_cons_zero, List.getD_cons_succ, List.contains_cons, List.contains_nil, List.map_cons, List.map_nil, beq_self_eq_true, Nat.reduceBEq, dbin, dIntBin, okR, callG, pureB, leaf, leafN, List.all_cons, List.all_nil, List.nil_append, List.append_nil, List.take_nil, List.length_nil, List.length_cons, List.getElem?_nil, dcells, Nat.reduceAdd, stepBox, ge_iff_le, dStrBin, Int.reduceBEq, takes, ptrArgs, callArgs, given, oroom, vroom, Option.isSome_none, stepTake, stepPtr, notAgg, ite_self, AVB]
    | (refine drW_intro (by kernel_rfl) ?_)
    | (refine gw_intro (fun h => ?_) (fun h => ?_) <;> (try simp only [beq_true, beq_false, Bool.not_eq_eq_eq_not, Bool.not_true, Bool.not_false, Bool.not_not, decide_eq_true_eq, decide_eq_false_iff_not, ge_iff_le, gt_iff_lt] at h)))
      · by_cases k3 : k = 3
        · subst k3
          cases c1 : (sp == []) with
          | false =>
            refine callK (m := 185) (res := [4]) (rs := [.tmp 4]) rfl Tryd.func27 rfl rfl rfl rfl rfl ?_
            repeat' (first
    | simp only [*, guardG, opG, inB, sval, stake, eats, eaters, get, cval, cval1, croom, St.taken, endQ, endR, endV, rvars, rvar, room1, ↓reduceIte, Nat.reduceEqDiff, Nat.reduceLT, reduceCtorEq, List.filterMap_cons, List.filterMap_nil, Option.bind_some, Option.map_some, Option.bind_none, List.getElem?_cons_zero, List.getElem?_cons_succ, List.getD_cons_zero, List.getD_cons_succ, List.contains_cons, List.contains_nil, List.map_nil, beq_self_eq_true, Nat.reduceBEq, dbin, dIntBin, okR, callG, pureB, leaf, leafN, List.all_cons, List.all_nil, List.nil_append, List.append_nil, List.take_nil, List.length_nil, List.length_cons, List.getElem?_nil, dcells, Nat.reduceAdd, stepBox, ge_iff_le, dStrBin, Int.reduceBEq, takes, ptrArgs, callArgs, given, oroom, vroom, Option.isSome_none, stepTake, stepPtr, notAgg, ite_self, AVB]
    | (refine drW_intro (by kernel_rfl) ?_)
    | (refine gw_intro (fun h => ?_) (fun h => ?_) <;> (try simp only [beq_true, beq_false, Bool.not_eq_eq_eq_not, Bool.not_true, Bool.not_false, Bool.not_not, decide_eq_true_eq, decide_eq_false_iff_not, ge_iff_le, gt_iff_lt] at h)))
          | true =>
            cases c2 : (nm == []) with
            | false =>
              refine callK (m := 185) (res := [4]) (rs := [.tmp 4]) rfl Tryd.func27 rfl rfl rfl rfl rfl ?_
              repeat' (first
    | simp only [*, guardG, opG, inB, sval, stake, eats, eaters, get, cval, cval1, croom, St.taken, endQ, endR, endV, rvars, rvar, room1, ↓reduceIte, Nat.reduceEqDiff, Nat.reduceLT, reduceCtorEq, List.filterMap_cons, List.filterMap_nil, Option.bind_some, Option.map_some, Option.bind_none, List.getElem?_cons_zero, List.getElem?_cons_succ, List.getD_cons_zero, List.getD_cons_succ, List.contains_cons, List.contains_nil, List.map_nil, beq_self_eq_true, Nat.reduceBEq, dbin, dIntBin, okR, callG, pureB, leaf, leafN, List.all_cons, List.all_nil, List.nil_append, List.append_nil, List.take_nil, List.length_nil, List.length_cons, List.getElem?_nil, dcells, Nat.reduceAdd, stepBox, ge_iff_le, dStrBin, Int.reduceBEq, takes, ptrArgs, callArgs, given, oroom, vroom, Option.isSome_none, stepTake, stepPtr, notAgg, ite_self, AVB]
    | (refine drW_intro (by kernel_rfl) ?_)
    | (refine gw_intro (fun h => ?_) (fun h => ?_) <;> (try simp only [beq_true, beq_false, Bool.not_eq_eq_eq_not, Bool.not_true, Bool.not_false, Bool.not_not, decide_eq_true_eq, decide_eq_false_iff_not, ge_iff_le, gt_iff_lt] at h)))
            | true =>
              cases c3 : ((la.length : Int) == 0) with
              | false =>
                refine callK (m := 185) (res := [4]) (rs := [.tmp 4]) rfl Tryd.func27 rfl rfl rfl rfl rfl ?_
                repeat' (first
    | simp only [*, guardG, opG, inB, sval, stake, eats, eaters, get, cval, cval1, croom, St.taken, endQ, endR, endV, rvars, rvar, room1, ↓reduceIte, Nat.reduceEqDiff, Nat.reduceLT, reduceCtorEq, List.filterMap_cons, List.filterMap_nil, Option.bind_some, Option.map_some, Option.bind_none, List.getElem?_cons_zero, List.getElem?_cons_succ, List.getD_cons_zero, List.getD_cons_succ, List.contains_cons, List.contains_nil, List.map_nil, beq_self_eq_true, Nat.reduceBEq, dbin, dIntBin, okR, callG, pureB, leaf, leafN, List.all_cons, List.all_nil, List.nil_append, List.append_nil, List.take_nil, List.length_nil, List.length_cons, List.getElem?_nil, dcells, Nat.reduceAdd, stepBox, ge_iff_le, dStrBin, Int.reduceBEq, takes, ptrArgs, callArgs, given, oroom, vroom, Option.isSome_none, stepTake, stepPtr, notAgg, ite_self, AVB]
    | (refine drW_intro (by kernel_rfl) ?_)
    | (refine gw_intro (fun h => ?_) (fun h => ?_) <;> (try simp only [beq_true, beq_false, Bool.not_eq_eq_eq_not, Bool.not_true, Bool.not_false, Bool.not_not, decide_eq_true_eq, decide_eq_false_iff_not, ge_iff_le, gt_iff_lt] at h)))
              | true =>
                cases c4 : ((ls.length : Int) == 0) with
                | false =>
                  refine callK (m := 185) (res := [4]) (rs := [.tmp 4]) rfl Tryd.func27 rfl rfl rfl rfl rfl ?_
                  repeat' (first
    | simp only [*, guardG, opG, inB, sval, stake, eats, eaters, get, cval, cval1, croom, St.taken, endQ, endR, endV, rvars, rvar, room1, ↓reduceIte, Nat.reduceEqDiff, Nat.reduceLT, reduceCtorEq, List.filterMap_cons, List.filterMap_nil, Option.bind_some, Option.map_some, Option.bind_none, List.getElem?_cons_zero, List.getElem?_cons_succ, List.getD_cons_zero, List.getD_cons_succ, List.contains_cons, List.contains_nil, List.map_nil, beq_self_eq_true, Nat.reduceBEq, dbin, dIntBin, okR, callG, pureB, leaf, leafN, List.all_cons, List.all_nil, List.nil_append, List.append_nil, List.take_nil, List.length_nil, List.length_cons, List.getElem?_nil, dcells, Nat.reduceAdd, stepBox, ge_iff_le, dStrBin, Int.reduceBEq, takes, ptrArgs, callArgs, given, oroom, vroom, Option.isSome_none, stepTake, stepPtr, notAgg, ite_self, AVB]
    | (refine drW_intro (by kernel_rfl) ?_)
    | (refine gw_intro (fun h => ?_) (fun h => ?_) <;> (try simp only [beq_true, beq_false, Bool.not_eq_eq_eq_not, Bool.not_true, Bool.not_false, Bool.not_not, decide_eq_true_eq, decide_eq_false_iff_not, ge_iff_le, gt_iff_lt] at h)))
                | true =>
                  cases e3 with
                  | false =>
                    refine callK (m := 185) (res := [4]) (rs := [.tmp 4]) rfl Tryd.func27 rfl rfl rfl rfl rfl ?_
                    repeat' (first
    | simp only [*, guardG, opG, inB, sval, stake, eats, eaters, get, cval, cval1, croom, St.taken, endQ, endR, endV, rvars, rvar, room1, ↓reduceIte, Nat.reduceEqDiff, Nat.reduceLT, reduceCtorEq, List.filterMap_cons, List.filterMap_nil, Option.bind_some, Option.map_some, Option.bind_none, List.getElem?_cons_zero, List.getElem?_cons_succ, List.getD_cons_zero, List.getD_cons_succ, List.contains_cons, List.contains_nil, List.map_cons, List.map_nil, beq_self_eq_true, Nat.reduceBEq, dbin, dIntBin, okR, callG, pureB, leaf, leafN, List.all_cons, List.all_nil, List.nil_append, List.append_nil, List.take_nil, List.length_nil, List.length_cons, List.getElem?_nil, dcells, Nat.reduceAdd, stepBox, ge_iff_le, dStrBin, Int.reduceBEq, takes, ptrArgs, callArgs, given, oroom, vroom, Option.isSome_none, stepTake, stepPtr, notAgg, ite_self, AVB]
    | (refine drW_intro (by kernel_rfl) ?_)
    | (refine gw_intro (fun h => ?_) (fun h => ?_) <;> (try simp only [beq_true, beq_false, Bool.not_eq_eq_eq_not, Bool.not_true, Bool.not_false, Bool.not_not, decide_eq_true_eq, decide_eq_false_iff_not, ge_iff_le, gt_iff_lt] at h)))
                  | true =>
                    refine callK (m := 185) (res := [4]) (rs := [.tmp 4]) rfl Tryd.func27 rfl rfl rfl rfl rfl ?_
                    repeat' (first
    | simp only [*, guardG, opG, inB, sval, stake, eats, eaters, get, cval, cval1, croom, St.taken, endQ, endR, endV, rvars, rvar, room1, ↓reduceIte, Nat.reduceEqDiff, Nat.reduceLT, reduceCtorEq, List.filterMap_cons, List.filterMap_nil, Option.bind_some, Option.map_some, Option.bind_none, List.getElem?_cons_zero, List.getElem?_cons_succ, List.getD_cons_zero, List.getD_cons_succ, List.contains_cons, List.contains_nil, List.map_cons, List.map_nil, beq_self_eq_true, Nat.reduceBEq, dbin, dIntBin, okR, callG, pureB, leaf, leafN, List.all_cons, List.all_nil, List.nil_append, List.append_nil, List.take_nil, List.length_nil, List.length_cons, List.getElem?_nil, dcells, Nat.reduceAdd, stepBox, ge_iff_le, dStrBin, Int.reduceBEq, takes, ptrArgs, callArgs, given, oroom, vroom, Option.isSome_none, stepTake, stepPtr, notAgg, ite_self, AVB]
    | (refine drW_intro (by kernel_rfl) ?_)
    | (refine gw_intro (fun h => ?_) (fun h => ?_) <;> (try simp only [beq_true, beq_false, Bool.not_eq_eq_eq_not, Bool.not_true, Bool.not_false, Bool.not_not, decide_eq_true_eq, decide_eq_false_iff_not, ge_iff_le, gt_iff_lt] at h)))
        · have b1 : (k != 1) = true := by simpa using k1
          have b2 : (k == 2) = false := by simpa using k2
          have b3 : (k == 3) = false := by simpa using k3
          refine callK (m := 185) (res := [4]) (rs := [.tmp 4]) rfl Tryd.func27 rfl rfl rfl rfl rfl ?_
          repeat' (first
    | simp only [*, guardG, opG, inB, sval, stake, eats, eaters, get, cval, cval1, croom, St.taken, endQ, endR, endV, rvars, rvar, room1, ↓reduceIte, Nat.reduceEqDiff, Nat.reduceLT, reduceCtorEq, List.filterMap_cons, List.filterMap_nil, Option.bind_some, Option.map_some, Option.bind_none, List.getElem?_cons_zero, List.getElem?_cons_succ, List.getD_cons_zero, List.getD_cons_succ, List.contains_cons, List.contains_nil, List.map_nil, beq_self_eq_true, dbin, dIntBin, okR, callG, pureB, leaf, leafN, List.all_cons, List.all_nil, List.nil_append, List.append_nil, List.take_nil, List.length_nil, List.length_cons, dun, List.getElem?_nil, dcells, Nat.reduceAdd, stepBox, ge_iff_le, dStrBin, takes, ptrArgs, callArgs, given, oroom, vroom, Option.isSome_none, stepTake, stepPtr, notAgg, ite_self, AVB]
    | (refine drW_intro (by kernel_rfl) ?_)
    | (refine gw_intro (fun h => ?_) (fun h => ?_) <;> (try simp only [beq_true, beq_false, Bool.not_eq_eq_eq_not, Bool.not_true, Bool.not_false, Bool.not_not, decide_eq_true_eq, decide_eq_false_iff_not, ge_iff_le, gt_iff_lt] at h)))
  · have h5 : p < 0 := by omega
    clear h3
    generalize ahead.map Nd.d = AH at *
    have h2' : ¬ (AH.length : Int) ≤ p := by omega
    clear lN h2
    by_cases k1 : k = 1
    · subst k1
      rw [if_pos rfl]
      exact relm2_L AH p sp nm la ls tx hn h1 h2' h0
    · obtain ⟨s1, s2, s3, s4, s5, s6⟩ := hn
      have q3 := rright_L (chk := chk) tx s5
      have lA := lenM la At.d
      have lS := lenM ls D.str
      clear s1 s2 s3 s4 s5 s6
      generalize goodB tx = e3 at *
      generalize la.map At.d = LA at *
      generalize ls.map D.str = LS at *
      by_cases k2 : k = 2
      · subst k2
        cases c1 : (sp == []) with
        | false =>
          refine callK (m := 185) (res := [4]) (rs := [.tmp 4]) rfl Tryd.func27 rfl rfl rfl rfl rfl ?_
          repeat' (first
    | simp only [*, guardG, opG, inB, sval, stake, eats, eaters, get, cval, cval1, croom, St.taken, endQ, endR, endV, rvars, rvar, room1, ↓reduceIte, Nat.reduceEqDiff, Nat.reduceLT, reduceCtorEq, List.filterMap_cons, List.filterMap_nil, Option.bind_some, Option.map_some, Option.bind_none, List.getElem?_cons_zero, List.getElem?_cons_succ, List.getD_cons_zero, List.getD_cons_succ, List.contains_cons, List.contains_nil, List.map_nil, beq_self_eq_true, Nat.reduceBEq, dbin, dIntBin, okR, callG, pureB, leaf, leafN, List.all_cons, List.all_nil, List.nil_append, List.append_nil, List.take_nil, List.length_nil, List.length_cons, List.getElem?_nil, dcells, Nat.reduceAdd, stepBox, ge_iff_le, dStrBin, takes, ptrArgs, callArgs, given, oroom, vroom, Option.isSome_none, stepTake, stepPtr, notAgg, ite_self, AVB]
    | (refine drW_intro (by kernel_rfl) ?_)
    | (refine gw_intro (fun h => ?_) (fun h => ?_) <;> (try simp only [beq_true, beq_false, Bool.not_eq_eq_eq_not, Bool.not_true, Bool.not_false, Bool.not_not, decide_eq_true_eq, decide_eq_false_iff_not, ge_iff_le, gt_iff_lt] at h)))
        | true =>
          cases c2 : (nm == []) with
          | false =>
            refine callK (m := 185) (res := [4]) (rs := [.tmp 4]) rfl Tryd.func27 rfl rfl rfl rfl rfl ?_
            repeat' (first
    | simp only [*, guardG, opG, inB, sval, stake, eats, eaters, get, cval, cval1, croom, St.taken, endQ, endR, endV, rvars, rvar, room1, ↓reduceIte, Nat.reduceEqDiff, Nat.reduceLT, reduceCtorEq, List.filterMap_cons, List.filterMap_nil, Option.bind_some, Option.map_some, Option.bind_none, List.getElem?_cons_zero, List.getElem?_cons_succ, List.getD_cons_zero, List.getD_cons_succ, List.contains_cons, List.contains_nil, List.map_nil, beq_self_eq_true, Nat.reduceBEq, dbin, dIntBin, okR, callG, pureB, leaf, leafN, List.all_cons, List.all_nil, List.nil_append, List.append_nil, List.take_nil, List.length_nil, List.length_cons, List.getElem?_nil, dcells, Nat.reduceAdd, stepBox, ge_iff_le, dStrBin, takes, ptrArgs, callArgs, given, oroom, vroom, Option.isSome_none, stepTake, stepPtr, notAgg, ite_self, AVB]
    | (refine drW_intro (by kernel_rfl) ?_)
    | (refine gw_intro (fun h => ?_) (fun h => ?_) <;> (try simp only [beq_true, beq_false, Bool.not_eq_eq_eq_not, Bool.not_true, Bool.not_false, Bool.not_not, decide_eq_true_eq, decide_eq_false_iff_not, ge_iff_le, gt_iff_lt] at h)))
          | true =>
            cases c3 : ((la.length : Int) == 0) with
            | false =>
              refine callK (m := 185) (res := [4]) (rs := [.tmp 4]) rfl Tryd.func27 rfl rfl rfl rfl rfl ?_
              repeat' (first
    | simp only [*, guardG, opG, inB, sval, stake, eats, eaters, get, cval, cval1, croom, St.taken, endQ, endR, endV, rvars, rvar, room1, ↓reduceIte, Nat.reduceEqDiff, Nat.reduceLT, reduceCtorEq, List.filterMap_cons, List.filterMap_nil, Option.bind_some, Option.map_some, Option.bind_none, List.getElem?_cons_zero, List.getElem?_cons_succ, List.getD_cons_zero, List.getD_cons_succ, List.contains_cons, List.contains_nil, List.map_nil, beq_self_eq_true, Nat.reduceBEq, dbin, dIntBin, okR, callG, pureB, leaf, leafN, List.all_cons, List.all_nil, List.nil_append, List.append_nil, List.take_nil, List.length_nil, List.length_cons, List.getElem?_nil, dcells, Nat.reduceAdd, stepBox, ge_iff_le, dStrBin, takes, ptrArgs, callArgs, given, oroom, vroom, Option.isSome_none, stepTake, stepPtr, notAgg, ite_self, AVB]
    | (refine drW_intro (by kernel_rfl) ?_)
    | (refine gw_intro (fun h => ?_) (fun h => ?_) <;> (try simp only [beq_true, beq_false, Bool.not_eq_eq_eq_not, Bool.not_true, Bool.not_false, Bool.not_not, decide_eq_true_eq, decide_eq_false_iff_not, ge_iff_le, gt_iff_lt] at h)))
            | true =>
              cases c4 : ((ls.length : Int) == 0) with
              | false =>
                refine callK (m := 185) (res := [4]) (rs := [.tmp 4]) rfl Tryd.func27 rfl rfl rfl rfl rfl ?_
                repeat' (first
    | simp only [*, guardG, opG, inB, sval, stake, eats, eaters, get, cval, cval1, croom, St.taken, endQ, endR, endV, rvars, rvar, room1, ↓reduceIte, Nat.reduceEqDiff, Nat.reduceLT, reduceCtorEq, List.filterMap_cons, List.filterMap_nil, Option.bind_some, Option.map_some, Option.bind_none, List.getElem?_cons_zero, List.getElem?_cons_succ, List.getD_cons_zero, List.getD_cons_succ, List.contains_cons, List.contains_nil, List.map_nil, beq_self_eq_true, Nat.reduceBEq, dbin, dIntBin, okR, callG, pureB, leaf, leafN, List.all_cons, List.all_nil, List.nil_append, List.append_nil, List.take_nil, List.length_nil, List.length_cons, List.getElem?_nil, dcells, Nat.reduceAdd, stepBox, ge_iff_le, dStrBin, takes, ptrArgs, callArgs, given, oroom, vroom, Option.isSome_none, stepTake, stepPtr, notAgg, ite_self, AVB]
    | (refine drW_intro (by kernel_rfl) ?_)
    | (refine gw_intro (fun h => ?_) (fun h => ?_) <;> (try simp only [beq_true, beq_false, Bool.not_eq_eq_eq_not, Bool.not_true, Bool.not_false, Bool.not_not, decide_eq_true_eq, decide_eq_false_iff_not, ge_iff_le, gt_iff_lt] at h)))
              | true =>
                cases e3 with
                | false =>
                  refine callK (m := 185) (res := [4]) (rs := [.tmp 4]) rfl Tryd.func27 rfl rfl rfl rfl rfl ?_
                  repeat' (first
    | simp only [*, guardG, opG, inB, sval, stake, eats, eaters, get, cval, cval1, croom, St.taken, endQ, endR, endV, rvars, rvar, room1, ↓reduceIte, Nat.reduceEqDiff, Nat.reduceLT, reduceCtorEq, List.filterMap_cons, List.filterMap_nil, Option.bind_some, Option.map_some, Option.bind_none, List.getElem?_cons_zero, List.getElem?_cons_succ, List.getD_cons_zero, List.getD_cons_succ, List.contains_cons, List.contains_nil, List.map_cons, List.map_nil, beq_self_eq_true, Nat.reduceBEq, dbin, dIntBin, okR, callG, pureB, leaf, leafN, List.all_cons, List.all_nil, List.nil_append, List.append_nil, List.take_nil, List.length_nil, List.length_cons, List.getElem?_nil, dcells, Nat.reduceAdd, stepBox, ge_iff_le, dStrBin, takes, ptrArgs, callArgs, given, oroom, vroom, Option.isSome_none, stepTake, stepPtr, notAgg, ite_self, AVB]
    | (refine drW_intro (by kernel_rfl) ?_)
    | (refine gw_intro (fun h => ?_) (fun h => ?_) <;> (try simp only [beq_true, beq_false, Bool.not_eq_eq_eq_not, Bool.not_true, Bool.not_false, Bool.not_not, decide_eq_true_eq, decide_eq_false_iff_not, ge_iff_le, gt_iff_lt] at h)))
                | true =>
                  refine callK (m := 185) (res := [4]) (rs := [.tmp 4]) rfl Tryd.func27 rfl rfl rfl rfl rfl ?_
                  repeat' (first
    | simp only [*, guardG, opG, inB, sval, stake, eats, eaters, get, cval, cval1, croom, St.taken, endQ, endR, endV, rvars, rvar, room1, ↓reduceIte, Nat.reduceEqDiff, Nat.reduceLT, reduceCtorEq, List.filterMap_cons, List.filterMap_nil, Option.bind_some, Option.map_some, Option.bind_none, List.getElem?_cons_zero, List.getElem?_cons_succ, List.getD_cons_zero, List.getD_cons_succ, List.contains_cons, List.contains_nil, List.map_cons, List.map_nil, beq_self_eq_true, Nat.reduceBEq, dbin, dIntBin, okR, callG, pureB, leaf, leafN, List.all_cons, List.all_nil, List.nil_append, List.append_nil, List.take_nil, List.length_nil, List.length_cons, List.getElem?_nil, dcells, Nat.reduceAdd, stepBox, ge_iff_le, dStrBin, Int.reduceBEq, takes, ptrArgs, callArgs, given, oroom, vroom, Option.isSome_none, stepTake, stepPtr, notAgg, ite_self, AVB]
    | (refine drW_intro (by kernel_rfl) ?_)
    | (refine gw_intro (fun h => ?_) (fun h => ?_) <;> (try simp only [beq_true, beq_false, Bool.not_eq_eq_eq_not, Bool.not_true, Bool.not_false, Bool.not_not, decide_eq_true_eq, decide_eq_false_iff_not, ge_iff_le, gt_iff_lt] at h)))
      · by_cases k3 : k = 3
        · subst k3
          cases c1 : (sp == []) with
          | false =>
            refine callK (m := 185) (res := [4]) (rs := [.tmp 4]) rfl Tryd.func27 rfl rfl rfl rfl rfl ?_
            repeat' (first
    | simp only [*, guardG, opG, inB, sval, stake, eats, eaters, get, cval, cval1, croom, St.taken, endQ, endR, endV, rvars, rvar, room1, ↓reduceIte, Nat.reduceEqDiff, Nat.reduceLT, reduceCtorEq, List.filterMap_cons, List.filterMap_nil, Option.bind_some, Option.map_some, Option.bind_none, List.getElem?_cons_zero, List.getElem?_cons_succ, List.getD_cons_zero, List.getD_cons_succ, List.contains_cons, List.contains_nil, List.map_nil, beq_self_eq_true, Nat.reduceBEq, dbin, dIntBin, okR, callG, pureB, leaf, leafN, List.all_cons, List.all_nil, List.nil_append, List.append_nil, List.take_nil, List.length_nil, List.length_cons, List.getElem?_nil, dcells, Nat.reduceAdd, stepBox, ge_iff_le, dStrBin, Int.reduceBEq, takes, ptrArgs, callArgs, given, oroom, vroom, Option.isSome_none, stepTake, stepPtr, notAgg, ite_self, AVB]
    | (refine drW_intro (by kernel_rfl) ?_)
    | (refine gw_intro (fun h => ?_) (fun h => ?_) <;> (try simp only [beq_true, beq_false, Bool.not_eq_eq_eq_not, Bool.not_true, Bool.not_false, Bool.not_not, decide_eq_true_eq, decide_eq_false_iff_not, ge_iff_le, gt_iff_lt] at h)))
          | true =>
            cases c2 : (nm == []) with
            | false =>
              refine callK (m := 185) (res := [4]) (rs := [.tmp 4]) rfl Tryd.func27 rfl rfl rfl rfl rfl ?_
              repeat' (first
    | simp only [*, guardG, opG, inB, sval, stake, eats, eaters, get, cval, cval1, croom, St.taken, endQ, endR, endV, rvars, rvar, room1, ↓reduceIte, Nat.reduceEqDiff, Nat.reduceLT, reduceCtorEq, List.filterMap_cons, List.filterMap_nil, Option.bind_some, Option.map_some, Option.bind_none, List.getElem?_cons_zero, List.getElem?_cons_succ, List.getD_cons_zero, List.getD_cons_succ, List.contains_cons, List.contains_nil, List.map_nil, beq_self_eq_true, Nat.reduceBEq, dbin, dIntBin, okR, callG, pureB, leaf, leafN, List.all_cons, List.all_nil, List.nil_append, List.append_nil, List.take_nil, List.length_nil, List.length_cons, List.getElem?_nil, dcells, Nat.reduceAdd, stepBox, ge_iff_le, dStrBin, Int.reduceBEq, takes, ptrArgs, callArgs, given, oroom, vroom, Option.isSome_none, stepTake, stepPtr, notAgg, ite_self, AVB]
    | (refine drW_intro (by kernel_rfl) ?_)
    | (refine gw_intro (fun h => ?_) (fun h => ?_) <;> (try simp only [beq_true, beq_false, Bool.not_eq_eq_eq_not, Bool.not_true, Bool.not_false, Bool.not_not, decide_eq_true_eq, decide_eq_false_iff_not, ge_iff_le, gt_iff_lt] at h)))
            | true =>
              cases c3 : ((la.length : Int) == 0) with
              | false =>
                refine callK (m := 185) (res := [4]) (rs := [.tmp 4]) rfl Tryd.func27 rfl rfl rfl rfl rfl ?_
                repeat' (first
    | simp only [*, guardG, opG, inB, sval, stake, eats, eaters, get, cval, cval1, croom, St.taken, endQ, endR, endV, rvars, rvar, room1, ↓reduceIte, Nat.reduceEqDiff, Nat.reduceLT, reduceCtorEq, List.filterMap_cons, List.filterMap_nil, Option.bind_some, Option.map_some, Option.bind_none, List.getElem?_cons_zero, List.getElem?_cons_succ, List.getD_cons_zero, List.getD_cons_succ, List.contains_cons, List.contains_nil, List.map_nil, beq_self_eq_true, Nat.reduceBEq, dbin, dIntBin, okR, callG, pureB, leaf, leafN, List.all_cons, List.all_nil, List.nil_append, List.append_nil, List.take_nil, List.length_nil, List.length_cons, List.getElem?_nil, dcells, Nat.reduceAdd, stepBox, ge_iff_le, dStrBin, Int.reduceBEq, takes, ptrArgs, callArgs, given, oroom, vroom, Option.isSome_none, stepTake, stepPtr, notAgg, ite_self, AVB]
    | (refine drW_intro (by kernel_rfl) ?_)
    | (refine gw_intro (fun h => ?_) (fun h => ?_) <;> (try simp only [beq_true, beq_false, Bool.not_eq_eq_eq_not, Bool.not_true, Bool.not_false, Bool.not_not, decide_eq_true_eq, decide_eq_false_iff_not, ge_iff_le, gt_iff_lt] at h)))
              | true =>
                cases c4 : ((ls.length : Int) == 0) with
                | false =>
                  refine callK (m := 185) (res := [4]) (rs := [.tmp 4]) rfl Tryd.func27 rfl rfl rfl rfl rfl ?_
                  repeat' (first
    | simp only [*, guardG, opG, inB, sval, stake, eats, eaters, get, cval, cval1, croom, St.taken, endQ, endR, endV, rvars, rvar, room1, ↓reduceIte, Nat.reduceEqDiff, Nat.reduceLT, reduceCtorEq, List.filterMap_cons, List.filterMap_nil, Option.bind_some, Option.map_some, Option.bind_none, List.getElem?_cons_zero, List.getElem?_cons_succ, List.getD_cons_zero, List.getD_cons_succ, List.contains_cons, List.contains_nil, List.map_nil, beq_self_eq_true, Nat.reduceBEq, dbin, dIntBin, okR, callG, pureB, leaf, leafN, List.all_cons, List.all_nil, List.nil_append, List.append_nil, List.take_nil, List.length_nil, List.length_cons, List.getElem?_nil, dcells, Nat.reduceAdd, stepBox, ge_iff_le, dStrBin, Int.reduceBEq, takes, ptrArgs, callArgs, given, oroom, vroom, Option.isSome_none, stepTake, stepPtr, notAgg, ite_self, AVB]
    | (refine drW_intro (by kernel_rfl) ?_)
    | (refine gw_intro (fun h => ?_) (fun h => ?_) <;> (try simp only [beq_true, beq_false, Bool.not_eq_eq_eq_not, Bool.not_true, Bool.not_false, Bool.not_not, decide_eq_true_eq, decide_eq_false_iff_not, ge_iff_le, gt_iff_lt] at h)))
                | true =>
                  cases e3 with
                  | false =>
                    refine callK (m := 185) (res := [4]) (rs := [.tmp 4]) rfl Tryd.func27 rfl rfl rfl rfl rfl ?_
                    repeat' (first
    | simp only [*, guardG, opG, inB, sval, stake, eats, eaters, get, cval, cval1, croom, St.taken, endQ, endR, endV, rvars, rvar, room1, ↓reduceIte, Nat.reduceEqDiff, Nat.reduceLT, reduceCtorEq, List.filterMap_cons, List.filterMap_nil, Option.bind_some, Option.map_some, Option.bind_none, List.getElem?_cons_zero, List.getElem?_cons_succ, List.getD_cons_zero, List.getD_cons_succ, List.contains_cons, List.contains_nil, List.map_cons, List.map_nil, beq_self_eq_true, Nat.reduceBEq, dbin, dIntBin, okR, callG, pureB, leaf, leafN, List.all_cons, List.all_nil, List.nil_append, List.append_nil, List.take_nil, List.length_nil, List.length_cons, List.getElem?_nil, dcells, Nat.reduceAdd, stepBox, ge_iff_le, dStrBin, Int.reduceBEq, takes, ptrArgs, callArgs, given, oroom, vroom, Option.isSome_none, stepTake, stepPtr, notAgg, ite_self, AVB]
    | (refine drW_intro (by kernel_rfl) ?_)
    | (refine gw_intro (fun h => ?_) (fun h => ?_) <;> (try simp only [beq_true, beq_false, Bool.not_eq_eq_eq_not, Bool.not_true, Bool.not_false, Bool.not_not, decide_eq_true_eq, decide_eq_false_iff_not, ge_iff_le, gt_iff_lt] at h)))
                  | true =>
                    refine callK (m := 185) (res := [4]) (rs := [.tmp 4]) rfl Tryd.func27 rfl rfl rfl rfl rfl ?_
                    repeat' (first
    | simp only [*, guardG, opG, inB, sval, stake, eats, eaters, get, cval, cval1, croom, St.taken, endQ, endR, endV, rvars, rvar, room1, ↓reduceIte, Nat.reduceEqDiff, Nat.reduceLT, reduceCtorEq, List.filterMap_cons, List.filterMap_nil, Option.bind_some, Option.map_some, Option.bind_none, List.getElem?_cons_zero, List.getElem?_cons_succ, List.getD_cons_zero, List.getD_cons_succ, List.contains_cons, List.contains_nil, List.map_cons, List.map_nil, beq_self_eq_true, Nat.reduceBEq, dbin, dIntBin, okR, callG, pureB, leaf, leafN, List.all_cons, List.all_nil, List.nil_append, List.append_nil, List.take_nil, List.length_nil, List.length_cons, List.getElem?_nil, dcells, Nat.reduceAdd, stepBox, ge_iff_le, dStrBin, Int.reduceBEq, takes, ptrArgs, callArgs, given, oroom, vroom, Option.isSome_none, stepTake, stepPtr, notAgg, ite_self, AVB]
    | (refine drW_intro (by kernel_rfl) ?_)
    | (refine gw_intro (fun h => ?_) (fun h => ?_) <;> (try simp only [beq_true, beq_false, Bool.not_eq_eq_eq_not, Bool.not_true, Bool.not_false, Bool.not_not, decide_eq_true_eq, decide_eq_false_iff_not, ge_iff_le, gt_iff_lt] at h)))
        · have b1 : (k != 1) = true := by simpa using k1
          have b2 : (k == 2) = false := by simpa using k2
          have b3 : (k == 3) = false := by simpa using k3
          refine callK (m := 185) (res := [4]) (rs := [.tmp 4]) rfl Tryd.func27 rfl rfl rfl rfl rfl ?_
          repeat' (first
    | simp only [*, guardG, opG, inB, sval, stake, eats, eaters, get, cval, cval1, croom, St.taken, endQ, endR, endV, rvars, rvar, room1, ↓reduceIte, Nat.reduceEqDiff, Nat.reduceLT, reduceCtorEq, List.filterMap_cons, List.filterMap_nil, Option.bind_some, Option.map_some, Option.bind_none, List.getElem?_cons_zero, List.getElem?_cons_succ, List.getD_cons_zero, List.getD_cons_succ, List.contains_cons, List.contains_nil, List.map_nil, beq_self_eq_true, dbin, dIntBin, okR, callG, pureB, leaf, leafN, List.all_cons, List.all_nil, List.nil_append, List.append_nil, List.take_nil, List.length_nil, List.length_cons, dun, List.getElem?_nil, dcells, Nat.reduceAdd, stepBox, ge_iff_le, dStrBin, takes, ptrArgs, callArgs, given, oroom, vroom, Option.isSome_none, stepTake, stepPtr, notAgg, ite_self, AVB]
    | (refine drW_intro (by kernel_rfl) ?_)
    | (refine gw_intro (fun h => ?_) (fun h => ?_) <;> (try simp only [beq_true, beq_false, Bool.not_eq_eq_eq_not, Bool.not_true, Bool.not_false, Bool.not_not, decide_eq_true_eq, decide_eq_false_iff_not, ge_iff_le, gt_iff_lt] at h)))
theorem rnode_L2 (ahead : List Nd) (n : Nd) (hn : BigN n) : callL Tryd.prog (ext11b chk) 27 [.list (ahead.map Nd.d), n.d] [] = some (.bool (nodeF ahead n), [.no], []) := by
  unfold nodeF
  cases h : parOk ahead n.p with
  | true => rw [Bool.true_and]; exact rbody_L ahead n hn h
  | false => rw [Bool.false_and]; exact rpar_L ahead n h
end Go.Av
