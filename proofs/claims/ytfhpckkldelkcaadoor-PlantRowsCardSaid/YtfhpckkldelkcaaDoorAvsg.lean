/- The evaluator, in one text: over any program; no conditions but those that each law names. -/
import Derived.Test.YtfhpckkldelkcaaDoorAvsf
set_option linter.unusedSimpArgs false
set_option linter.unusedVariables false
set_option linter.unusedSectionVars false
set_option maxRecDepth 100000
namespace Go.Av
open Go.Proofs
variable [Ek] {chk : List D → Bool}
def ownB (n : Nd) : Bool := n.k == 1 && nodeF [] (n.at' (-1))
theorem chk_one {n : Nd} (hk : n.k = 1) : chkF [n.at' (-1)] = if nodeF [] (n.at' (-1)) = true then (0, 0) else (10, 0) := by
  unfold chkF
  rw [chkG]
  by_cases h : nodeF [] (n.at' (-1)) = true
  · rw [if_pos h, if_pos h]
    have hr : rootB (n.at' (-1)) = true := by
      unfold rootB
      show ((n.k == 1) && decide ((-1 : Int) < 0)) = true
      rw [hk]
      rfl
    rw [if_pos hr]
    rfl
  · rw [if_neg h, if_neg h]
    rfl
theorem pright_L (n : Nd) (hS : SmallN n) : callL Tryd.prog (ext11b chk) 30 [n.d] [] = some (.bool (ownB n), [.no], []) := by
  have hSD : SmallD [n.at' (-1)] := ⟨by simp, fun m hm => by simp at hm; subst hm; exact hS⟩
  have h1 : callL Tryd.prog (ext11b chk) 33 [.list [(n.at' (-1)).d]] [] = _ := check_L (chk := chk) [n.at' (-1)] hSD
  unfold ownB
  rw [ndat]
  rw [atat] at h1
  by_cases hk : n.k = 1
  · rw [chk_one hk] at h1
    rw [hk] at h1 ⊢
    have b1 : ((1 : Int) == 1) = true := rfl
    cases hf : nodeF [] (n.at' (-1)) with
    | true =>
      rw [hf, if_pos rfl] at h1
      replace h1 : callL Tryd.prog (ext11b chk) 33 [.list [.agg [.int .i64 (-1), .int .i64 1, .str n.sp, .str n.nm, .list (n.at_.map At.d), .list (n.st.map .str), .str n.tx]]] [] = some (.con .nilIface, [.no], []) := h1
      clear hf hk hSD hS
      refine callK (m := 13) (res := [2]) (rs := [.tmp 2]) rfl Tryd.func30 rfl rfl rfl rfl rfl ?_
      repeat' (first
    | simp only [*, guardG, opG, inB, sval, stake, eats, eaters, get, cval, cval1, croom, St.taken, endQ, endR, endV, rvars, rvar, room1, ↓reduceIte, Nat.reduceEqDiff, Nat.reduceLT, Nat.reduceLeDiff, List.filterMap_cons, List.filterMap_nil, Option.bind_some, Option.map_some, List.getElem?_cons_zero, List.getElem?_cons_succ, List.getD_cons_zero, List.contains_cons, List.contains_nil, List.map_cons, List.map_nil, beq_self_eq_true, Nat.reduceBEq, dbin, dIntBin, okR, callG, pureB, leaf, leafN, List.all_cons, List.all_nil, List.nil_append, List.cons_append, List.append_nil, List.take_nil, List.length_nil, List.length_cons, List.getElem?_nil, List.take_zero, List.drop_zero, List.drop_succ_cons, dcells, Nat.reduceAdd, stepBox, dStrBin, takes, ptrArgs, callArgs, given, oroom, vroom, Option.isSome_none, stepTake, stepPtr, notAgg, ite_self, bs22, shA34, dNilEq, isLit, List.drop_succ_cons, List.drop_zero, bt22, putR1, List.cons_append, List.nil_append, AVB]
    | (refine drW_intro (by kernel_rfl) ?_)
    | (refine gw_intro (fun h => ?_) (fun h => ?_) <;> (try simp only [beq_true, beq_false, Bool.not_eq_eq_eq_not, Bool.not_true, Bool.not_false, Bool.not_not, decide_eq_true_eq, decide_eq_false_iff_not, ge_iff_le, gt_iff_lt] at h)))
    | false =>
      rw [hf, if_neg (by decide)] at h1
      replace h1 : callL Tryd.prog (ext11b chk) 33 [.list [.agg [.int .i64 (-1), .int .i64 1, .str n.sp, .str n.nm, .list (n.at_.map At.d), .list (n.st.map .str), .str n.tx]]] [] = some (.iface 66 (.fix (.agg [.int .i64 10, .int .i64 0, .con .nilIface]) 0), [.no], []) := h1
      clear hf hk hSD hS
      refine callK (m := 13) (res := [2]) (rs := [.tmp 2]) rfl Tryd.func30 rfl rfl rfl rfl rfl ?_
      repeat' (first
    | simp only [*, guardG, opG, inB, sval, stake, eats, eaters, get, cval, cval1, croom, St.taken, endQ, endR, endV, rvars, rvar, room1, ↓reduceIte, Nat.reduceEqDiff, Nat.reduceLT, Nat.reduceLeDiff, List.filterMap_cons, List.filterMap_nil, Option.bind_some, Option.map_some, List.getElem?_cons_zero, List.getElem?_cons_succ, List.getD_cons_zero, List.contains_cons, List.contains_nil, List.map_cons, List.map_nil, beq_self_eq_true, Nat.reduceBEq, dbin, dIntBin, okR, callG, pureB, leaf, leafN, List.all_cons, List.all_nil, List.nil_append, List.cons_append, List.append_nil, List.take_nil, List.length_nil, List.length_cons, List.getElem?_nil, List.take_zero, List.drop_zero, List.drop_succ_cons, dcells, Nat.reduceAdd, stepBox, dStrBin, takes, ptrArgs, callArgs, given, oroom, vroom, Option.isSome_none, stepTake, stepPtr, notAgg, ite_self, bs22, shB34, dNilEq, isLit, List.drop_succ_cons, List.drop_zero, bt22, putR1, List.cons_append, List.nil_append, AVB]
    | (refine drW_intro (by kernel_rfl) ?_)
    | (refine gw_intro (fun h => ?_) (fun h => ?_) <;> (try simp only [beq_true, beq_false, Bool.not_eq_eq_eq_not, Bool.not_true, Bool.not_false, Bool.not_not, decide_eq_true_eq, decide_eq_false_iff_not, ge_iff_le, gt_iff_lt] at h)))
  · have b1 : (n.k == 1) = false := by simpa using hk
    rw [b1, Bool.false_and]
    clear hk hSD hS h1
    refine callK (m := 13) (res := [2]) (rs := [.tmp 2]) rfl Tryd.func30 rfl rfl rfl rfl rfl ?_
    repeat' (first
    | simp only [*, guardG, opG, inB, sval, stake, eats, eaters, get, cval, cval1, croom, St.taken, endQ, endR, endV, rvars, rvar, room1, ↓reduceIte, Nat.reduceEqDiff, Nat.reduceLT, Nat.reduceLeDiff, List.filterMap_cons, List.filterMap_nil, Option.bind_some, Option.map_some, List.getElem?_cons_zero, List.getElem?_cons_succ, List.getD_cons_zero, List.contains_cons, List.contains_nil, List.map_nil, beq_self_eq_true, Nat.reduceBEq, dbin, dIntBin, okR, callG, pureB, leaf, leafN, List.all_cons, List.all_nil, List.nil_append, List.cons_append, List.append_nil, List.take_nil, List.length_nil, List.length_cons, List.getElem?_nil, List.take_zero, List.drop_zero, List.drop_succ_cons, dcells, Nat.reduceAdd, stepBox, dStrBin, takes, ptrArgs, callArgs, given, oroom, vroom, stepTake, stepPtr, notAgg, ite_self, dNilEq, isLit, List.drop_succ_cons, List.drop_zero, putR1, List.cons_append, List.nil_append, AVB]
    | (refine drW_intro (by kernel_rfl) ?_)
    | (refine gw_intro (fun h => ?_) (fun h => ?_) <;> (try simp only [beq_true, beq_false, Bool.not_eq_eq_eq_not, Bool.not_true, Bool.not_false, Bool.not_not, decide_eq_true_eq, decide_eq_false_iff_not, ge_iff_le, gt_iff_lt] at h)))
def badM (i : Nat) (m : Mv) : Bool := !(ownB m.nd) || ((i == 0 && m.dn) || (i == 1 && !m.dn))
def pathG : Nat → List Mv → Int
  | _, [] => -1
  | i, m :: r => if badM i m = true then (i : Int) else pathG (i + 1) r
def pathF (ms : List Mv) : Int := pathG 0 ms
theorem pathG_at {ms : List Mv} {i : Nat} {m : Mv} (h : ms[i]? = some m) : pathG i (ms.drop i) = if badM i m = true then (i : Int) else pathG (i + 1) (ms.drop (i + 1)) := by
  have hi := (List.getElem?_eq_some_iff.1 h).1
  have he := (List.getElem?_eq_some_iff.1 h).2
  rw [List.drop_eq_getElem_cons hi, he, pathG]
theorem pathG_end {ms : List Mv} {i : Nat} (h : ms.length ≤ i) : pathG i (ms.drop i) = -1 := by
  rw [List.drop_eq_nil_of_le h]
  rfl
theorem lenMv (ms : List Mv) : ((ms.map Mv.d).length : Int) = ms.length := by simp
theorem rnode0_L (n : Nd) (hS : SmallN n) : callL Tryd.prog (ext11b chk) 27 [.list [], (n.at' (-1)).d] [] = some (.bool (nodeF [] (n.at' (-1))), [.no], []) := rnode_L2 (chk := chk) [] (n.at' (-1)) hS.big
set_option maxHeartbeats 16000000 in
theorem path_L (ms : List Mv) (hl : ms.length ≤ 1000000) (hS : ∀ m ∈ ms, SmallN m.nd) : callL Tryd.prog (ext11b chk) 8 [.list (ms.map Mv.d)] [] = some (.int .i64 (pathF ms), [.no], []) := by
  have lN := lenMv ms
  obtain ⟨R, hR⟩ : ∃ R, Hd (R = pathF ms) := ⟨_, rfl⟩
  rw [← (show R = pathF ms from hR)]
  have HS : Hd (∀ m ∈ ms, SmallN m.nd) := hS
  have HL := Hd.mk hl
  clear hS hl
  refine callK (m := 50) (res := [2]) (rs := [.tmp 2]) rfl Tryd.func8 rfl rfl rfl rfl rfl ?_
  repeat' (first
    | simp only [*, guardG, opG, inB, sval, stake, eats, eaters, get, cval, cval1, croom, ↓reduceIte, Nat.reduceLT, List.filterMap_cons, List.filterMap_nil, List.contains_cons, List.contains_nil, List.append_nil, List.length_nil, vroom, AVB]
    | (refine drW_intro (by kernel_rfl) ?_)
    | (refine gw_intro (fun h => ?_) (fun h => ?_) <;> (try simp only [beq_true, beq_false, Bool.not_eq_eq_eq_not, Bool.not_true, Bool.not_false, Bool.not_not, decide_eq_true_eq, decide_eq_false_iff_not, ge_iff_le, gt_iff_lt] at h)))
  refine loopH (fun st => ∃ i : Nat, i ≤ ms.length ∧ st.slot 3 = .int .i64 i ∧ st.slot 0 = .list (ms.map Mv.d) ∧ Hd (R = pathG i (ms.drop i))) (fun st => ms.length - slotI st 3) ?_ ?_
  · refine ⟨0, Nat.zero_le _, ?_, ?_, hR⟩
    all_goals simp only [*, put_slot, entry_slot, ↓reduceIte, reduceCtorEq, List.getD_cons_zero]
    all_goals rfl
  · rintro st K ⟨i, hi, g3, g0, hO⟩ hn hx hr
    have hl : ms.length ≤ 1000000 := HL
    by_cases h : i < ms.length
    · have g9 : (i : Int) < ms.length := by omega
      have hw := wrapS i (by omega)
      obtain ⟨m, hm⟩ := some_at h
      have hO' : R = pathG i (ms.drop i) := hO
      rw [pathG_at hm] at hO'
      have hb := getD_map (f := Mv.d) hm
      rw [mvat] at hb
      have hsm : SmallN m.nd := (show ∀ m ∈ ms, SmallN m.nd from HS) m (List.mem_of_getElem? hm)
      have h1 := rnode0_L (chk := chk) m.nd hsm
      rw [atat] at h1
      obtain ⟨dn, ⟨p, k, sp, nm, la, ls, tx⟩⟩ := m
      simp only [badM, ownB] at hO'
      simp only [] at h1 hb
      obtain ⟨B, hB⟩ : ∃ B, B = nodeF [] (Nd.at' ⟨p, k, sp, nm, la, ls, tx⟩ (-1)) := ⟨_, rfl⟩
      simp only [← hB] at hO' h1
      clear hB
      generalize la.map At.d = LA at *
      generalize ls.map D.str = LS at *
      have HI := Hd.mk h
      clear hsm hm hl h hO hx
      by_cases hk : k = 1
      · subst hk
        have k1 : ((1 : Int) != 1) = false := rfl
        cases B with
        | true =>
          by_cases i0 : i = 0
          · subst i0
            have z0 : (((0 : Nat) : Int) == 0) = true := rfl
            have z1 : (((0 : Nat) : Int) == 1) = false := rfl
            cases dn with
            | true =>
              replace hO' : R = ((0 : Nat) : Int) := hO'
              subst hO'
              clear hn hR
              repeat' (first
    | simp only [*, guardG, opG, inB, sval, stake, eats, eaters, get, cval, cval1, croom, St.taken, ↓reduceIte, Nat.reduceEqDiff, Nat.reduceLT, Nat.reduceLeDiff, reduceCtorEq, List.filterMap_cons, List.filterMap_nil, Option.bind_some, Option.map_some, Option.bind_none, List.getElem?_cons_zero, List.getElem?_cons_succ, List.contains_cons, List.contains_nil, List.map_cons, List.map_nil, beq_self_eq_true, beq_iff_eq, Nat.reduceBEq, dbin, dIntBin, okR, callG, pureB, leaf, leafN, List.all_cons, List.all_nil, List.nil_append, List.cons_append, List.append_nil, List.length_nil, List.length_cons, dun, List.take_zero, List.drop_zero, List.drop_succ_cons, dcells, Nat.reduceAdd, stepBox, dStrBin, takes, ptrArgs, callArgs, given, oroom, vroom, Option.isSome_none, stepTake, stepPtr, bs22e, dNilEq, isLit, Option.some.injEq, List.drop_succ_cons, List.drop_nil, List.drop_zero, bt22, dpM1, faM_0, faM_1, iaM, lenMs, putR1, List.cons_append, List.nil_append, AVB]
    | (refine drW_intro (by kernel_rfl) ?_)
    | (refine gw_intro (fun h => ?_) (fun h => ?_) <;> (try simp only [beq_true, beq_false, Bool.not_eq_eq_eq_not, Bool.not_true, Bool.not_false, Bool.not_not, decide_eq_true_eq, decide_eq_false_iff_not, ge_iff_le, gt_iff_lt] at h)))
              refine hr _ ?_
              repeat' (first
    | simp only [*, put_slot, put_room, put_box, dem_box, setBox_box, endQ, endR, endV, rvars, rvar, room1, ↓reduceIte, List.map_nil, pureB, leaf, leafN, List.take_nil, List.range_zero, and_self, notAgg]
    | (refine drW_intro (by kernel_rfl) ?_)
    | (refine gw_intro (fun h => ?_) (fun h => ?_) <;> (try simp only [beq_true, beq_false, Bool.not_eq_eq_eq_not, Bool.not_true, Bool.not_false, Bool.not_not, decide_eq_true_eq, decide_eq_false_iff_not, ge_iff_le, gt_iff_lt] at h)))
            | false =>
              replace hO' : R = pathG (0 + 1) (ms.drop (0 + 1)) := hO'
              have HO2 : Hd (R = pathG (0 + 1) (ms.drop (0 + 1))) := hO'
              clear hO'
              repeat' (first
    | simp only [*, guardG, opG, inB, sval, stake, eats, eaters, get, cval, cval1, croom, St.taken, ↓reduceIte, Nat.reduceEqDiff, Nat.reduceLT, Nat.reduceLeDiff, reduceCtorEq, List.filterMap_cons, List.filterMap_nil, Option.bind_some, Option.map_some, Option.bind_none, List.getElem?_cons_zero, List.getElem?_cons_succ, List.contains_cons, List.contains_nil, List.map_cons, List.map_nil, beq_self_eq_true, beq_iff_eq, Nat.reduceBEq, dbin, dIntBin, okR, callG, pureB, leaf, leafN, List.all_cons, List.all_nil, List.nil_append, List.cons_append, List.append_nil, List.length_nil, List.length_cons, dun, List.take_zero, List.drop_zero, List.drop_succ_cons, dcells, Nat.reduceAdd, stepBox, dStrBin, takes, ptrArgs, callArgs, given, oroom, vroom, Option.isSome_none, stepTake, stepPtr, bs22e, dNilEq, isLit, Option.some.injEq, List.drop_succ_cons, List.drop_nil, List.drop_zero, bt22, dpM1, faM_0, faM_1, iaM, lenMs, putR1, List.cons_append, List.nil_append, AVB]
    | (refine drW_intro (by kernel_rfl) ?_)
    | (refine gw_intro (fun h => ?_) (fun h => ?_) <;> (try simp only [beq_true, beq_false, Bool.not_eq_eq_eq_not, Bool.not_true, Bool.not_false, Bool.not_not, decide_eq_true_eq, decide_eq_false_iff_not, ge_iff_le, gt_iff_lt] at h)))
              have hi2 : 0 < ms.length := HI
              refine hn _ ⟨0 + 1, hi2, ?_, ?_, HO2⟩ ?_
              · simp only [*, put_slot, ↓reduceIte]
              · simp only [*, put_slot, dem_slot, setBox_slot, ↓reduceIte, reduceCtorEq]
              · simp only [slotI, *, put_slot, ↓reduceIte, Int.toNat_natCast]
                omega
          · have b0 : ((i : Int) == 0) = false := by simpa using i0
            have b0' : (i == 0) = false := by simpa using i0
            by_cases i1 : i = 1
            · subst i1
              have b1 : (((1 : Nat) : Int) == 1) = true := rfl
              cases dn with
              | true =>
                replace hO' : R = pathG (1 + 1) (ms.drop (1 + 1)) := hO'
                clear i0 b0'
                have HO2 : Hd (R = pathG (1 + 1) (ms.drop (1 + 1))) := hO'
                clear hO'
                repeat' (first
    | simp only [*, guardG, opG, inB, sval, stake, eats, eaters, get, cval, cval1, croom, St.taken, ↓reduceIte, Nat.reduceEqDiff, Nat.reduceLT, Nat.reduceLeDiff, reduceCtorEq, List.filterMap_cons, List.filterMap_nil, Option.bind_some, Option.map_some, Option.bind_none, List.getElem?_cons_zero, List.getElem?_cons_succ, List.contains_cons, List.contains_nil, List.map_cons, List.map_nil, beq_self_eq_true, beq_iff_eq, Nat.reduceBEq, dbin, dIntBin, okR, callG, pureB, leaf, leafN, List.all_cons, List.all_nil, List.nil_append, List.cons_append, List.append_nil, List.length_nil, List.length_cons, dun, List.take_zero, List.drop_zero, List.drop_succ_cons, dcells, Nat.reduceAdd, stepBox, dStrBin, takes, ptrArgs, callArgs, given, oroom, vroom, Option.isSome_none, stepTake, stepPtr, bs22e, dNilEq, isLit, Option.some.injEq, List.drop_succ_cons, List.drop_nil, List.drop_zero, bt22, dpM1, faM_0, faM_1, iaM, lenMs, putR1, List.cons_append, List.nil_append, AVB]
    | (refine drW_intro (by kernel_rfl) ?_)
    | (refine gw_intro (fun h => ?_) (fun h => ?_) <;> (try simp only [beq_true, beq_false, Bool.not_eq_eq_eq_not, Bool.not_true, Bool.not_false, Bool.not_not, decide_eq_true_eq, decide_eq_false_iff_not, ge_iff_le, gt_iff_lt] at h)))
                have hi2 : 1 < ms.length := HI
                refine hn _ ⟨1 + 1, hi2, ?_, ?_, HO2⟩ ?_
                · simp only [*, put_slot, ↓reduceIte]
                · simp only [*, put_slot, dem_slot, setBox_slot, ↓reduceIte, reduceCtorEq]
                · simp only [slotI, *, put_slot, ↓reduceIte, Int.toNat_natCast]
                  omega
              | false =>
                replace hO' : R = ((1 : Nat) : Int) := hO'
                clear i0 b0'
                subst hO'
                clear hn hR
                repeat' (first
    | simp only [*, guardG, opG, inB, sval, stake, eats, eaters, get, cval, cval1, croom, St.taken, ↓reduceIte, Nat.reduceEqDiff, Nat.reduceLT, Nat.reduceLeDiff, reduceCtorEq, List.filterMap_cons, List.filterMap_nil, Option.bind_some, Option.map_some, Option.bind_none, List.getElem?_cons_zero, List.getElem?_cons_succ, List.contains_cons, List.contains_nil, List.map_cons, List.map_nil, beq_self_eq_true, beq_iff_eq, Nat.reduceBEq, dbin, dIntBin, okR, callG, pureB, leaf, leafN, List.all_cons, List.all_nil, List.nil_append, List.cons_append, List.append_nil, List.length_nil, List.length_cons, dun, List.take_zero, List.drop_zero, List.drop_succ_cons, dcells, Nat.reduceAdd, stepBox, dStrBin, takes, ptrArgs, callArgs, given, oroom, vroom, Option.isSome_none, stepTake, stepPtr, bs22e, dNilEq, isLit, Option.some.injEq, List.drop_succ_cons, List.drop_nil, List.drop_zero, bt22, dpM1, faM_0, faM_1, iaM, lenMs, putR1, List.cons_append, List.nil_append, AVB]
    | (refine drW_intro (by kernel_rfl) ?_)
    | (refine gw_intro (fun h => ?_) (fun h => ?_) <;> (try simp only [beq_true, beq_false, Bool.not_eq_eq_eq_not, Bool.not_true, Bool.not_false, Bool.not_not, decide_eq_true_eq, decide_eq_false_iff_not, ge_iff_le, gt_iff_lt] at h)))
                refine hr _ ?_
                repeat' (first
    | simp only [*, put_slot, put_room, put_box, dem_box, setBox_box, endQ, endR, endV, rvars, rvar, room1, ↓reduceIte, List.map_nil, pureB, leaf, leafN, List.take_nil, List.range_zero, and_self, notAgg]
    | (refine drW_intro (by kernel_rfl) ?_)
    | (refine gw_intro (fun h => ?_) (fun h => ?_) <;> (try simp only [beq_true, beq_false, Bool.not_eq_eq_eq_not, Bool.not_true, Bool.not_false, Bool.not_not, decide_eq_true_eq, decide_eq_false_iff_not, ge_iff_le, gt_iff_lt] at h)))
            · have b1 : ((i : Int) == 1) = false := by simp; omega
              have b1' : (i == 1) = false := by simpa using i1
              rw [b0', b1'] at hO'
              replace hO' : R = pathG (i + 1) (ms.drop (i + 1)) := hO'
              clear i0 i1 b0' b1'
              have HO2 : Hd (R = pathG (i + 1) (ms.drop (i + 1))) := hO'
              clear hO'
              repeat' (first
    | simp only [*, guardG, opG, inB, sval, stake, eats, eaters, get, cval, cval1, croom, St.taken, ↓reduceIte, Nat.reduceEqDiff, Nat.reduceLT, Nat.reduceLeDiff, reduceCtorEq, List.filterMap_cons, List.filterMap_nil, Option.bind_some, Option.map_some, Option.bind_none, List.getElem?_cons_zero, List.getElem?_cons_succ, List.contains_cons, List.contains_nil, List.map_cons, List.map_nil, beq_self_eq_true, beq_iff_eq, Nat.reduceBEq, dbin, dIntBin, okR, callG, pureB, leaf, leafN, List.all_cons, List.all_nil, List.nil_append, List.cons_append, List.append_nil, List.length_nil, List.length_cons, dun, List.take_zero, List.drop_zero, List.drop_succ_cons, dcells, Nat.reduceAdd, stepBox, dStrBin, takes, ptrArgs, callArgs, given, oroom, vroom, Option.isSome_none, stepTake, stepPtr, bs22e, dNilEq, isLit, Option.some.injEq, List.drop_succ_cons, List.drop_nil, List.drop_zero, bt22, dpM1, faM_1, iaM, lenMs, putR1, List.cons_append, List.nil_append, AVB]
    | (refine drW_intro (by kernel_rfl) ?_)
    | (refine gw_intro (fun h => ?_) (fun h => ?_) <;> (try simp only [beq_true, beq_false, Bool.not_eq_eq_eq_not, Bool.not_true, Bool.not_false, Bool.not_not, decide_eq_true_eq, decide_eq_false_iff_not, ge_iff_le, gt_iff_lt] at h)))
              have hi2 : i < ms.length := HI
              refine hn _ ⟨i + 1, hi2, ?_, ?_, HO2⟩ ?_
              · simp only [*, put_slot, ↓reduceIte]
              · simp only [*, put_slot, dem_slot, setBox_slot, ↓reduceIte, reduceCtorEq]
              · simp only [slotI, *, put_slot, ↓reduceIte, Int.toNat_natCast]
                omega
        | false =>
          replace hO' : R = (i : Int) := hO'
          subst hO'
          clear hn hR
          repeat' (first
    | simp only [*, guardG, opG, inB, sval, stake, eats, eaters, get, cval, cval1, croom, St.taken, ↓reduceIte, Nat.reduceEqDiff, Nat.reduceLT, Nat.reduceLeDiff, reduceCtorEq, List.filterMap_cons, List.filterMap_nil, Option.bind_some, Option.map_some, Option.bind_none, List.getElem?_cons_zero, List.getElem?_cons_succ, List.contains_cons, List.contains_nil, List.map_cons, List.map_nil, beq_self_eq_true, beq_iff_eq, Nat.reduceBEq, dbin, dIntBin, okR, callG, pureB, leaf, leafN, List.all_cons, List.all_nil, List.nil_append, List.cons_append, List.append_nil, List.length_nil, List.length_cons, dun, List.take_zero, List.drop_zero, List.drop_succ_cons, dcells, Nat.reduceAdd, stepBox, dStrBin, takes, ptrArgs, callArgs, given, oroom, vroom, Option.isSome_none, stepTake, stepPtr, bs22e, dNilEq, isLit, Option.some.injEq, List.drop_succ_cons, List.drop_nil, List.drop_zero, bt22, dpM1, faM_1, iaM, lenMs, putR1, List.cons_append, List.nil_append, AVB]
    | (refine drW_intro (by kernel_rfl) ?_)
    | (refine gw_intro (fun h => ?_) (fun h => ?_) <;> (try simp only [beq_true, beq_false, Bool.not_eq_eq_eq_not, Bool.not_true, Bool.not_false, Bool.not_not, decide_eq_true_eq, decide_eq_false_iff_not, ge_iff_le, gt_iff_lt] at h)))
          refine hr _ ?_
          repeat' (first
    | simp only [*, put_slot, put_room, put_box, dem_box, setBox_box, endQ, endR, endV, rvars, rvar, room1, ↓reduceIte, List.map_nil, pureB, leaf, leafN, List.take_nil, List.range_zero, and_self, notAgg]
    | (refine drW_intro (by kernel_rfl) ?_)
    | (refine gw_intro (fun h => ?_) (fun h => ?_) <;> (try simp only [beq_true, beq_false, Bool.not_eq_eq_eq_not, Bool.not_true, Bool.not_false, Bool.not_not, decide_eq_true_eq, decide_eq_false_iff_not, ge_iff_le, gt_iff_lt] at h)))
      · have k1 : (k != 1) = true := by simpa using hk
        have k2 : (k == 1) = false := by simpa using hk
        rw [k2] at hO'
        replace hO' : R = (i : Int) := hO'
        clear hk k2
        subst hO'
        clear hn hR
        repeat' (first
    | simp only [*, guardG, opG, inB, sval, stake, eats, eaters, get, cval, cval1, croom, St.taken, ↓reduceIte, Nat.reduceEqDiff, Nat.reduceLT, Nat.reduceLeDiff, reduceCtorEq, List.filterMap_cons, List.filterMap_nil, Option.bind_some, Option.map_some, Option.bind_none, List.getElem?_cons_zero, List.getElem?_cons_succ, List.contains_cons, List.contains_nil, beq_self_eq_true, beq_iff_eq, Nat.reduceBEq, dbin, dIntBin, okR, callG, pureB, leaf, leafN, List.all_cons, List.all_nil, List.nil_append, List.cons_append, List.append_nil, List.length_nil, List.length_cons, dun, List.take_zero, List.drop_zero, List.drop_succ_cons, dcells, Nat.reduceAdd, stepBox, dStrBin, takes, ptrArgs, callArgs, given, oroom, vroom, Option.isSome_none, stepTake, stepPtr, dNilEq, isLit, Option.some.injEq, List.drop_succ_cons, List.drop_nil, List.drop_zero, dpM1, faM_1, iaM, lenMs, putR1, List.cons_append, List.nil_append, AVB]
    | (refine drW_intro (by kernel_rfl) ?_)
    | (refine gw_intro (fun h => ?_) (fun h => ?_) <;> (try simp only [beq_true, beq_false, Bool.not_eq_eq_eq_not, Bool.not_true, Bool.not_false, Bool.not_not, decide_eq_true_eq, decide_eq_false_iff_not, ge_iff_le, gt_iff_lt] at h)))
        refine hr _ ?_
        repeat' (first
    | simp only [*, put_slot, put_room, put_box, dem_box, setBox_box, endQ, endR, endV, rvars, rvar, room1, ↓reduceIte, List.map_nil, pureB, leaf, leafN, List.take_nil, List.range_zero, and_self, notAgg]
    | (refine drW_intro (by kernel_rfl) ?_)
    | (refine gw_intro (fun h => ?_) (fun h => ?_) <;> (try simp only [beq_true, beq_false, Bool.not_eq_eq_eq_not, Bool.not_true, Bool.not_false, Bool.not_not, decide_eq_true_eq, decide_eq_false_iff_not, ge_iff_le, gt_iff_lt] at h)))
    · have g9 : ¬ (i : Int) < ms.length := by omega
      have hO' : R = pathG i (ms.drop i) := hO
      rw [pathG_end (by omega)] at hO'
      subst hO'
      clear hO hn hr hl hR
      repeat' (first
    | simp only [*, guardG, opG, inB, sval, stake, eats, eaters, get, St.taken, ↓reduceIte, Nat.reduceEqDiff, Nat.reduceLT, reduceCtorEq, List.filterMap_cons, List.filterMap_nil, Option.map_some, Option.bind_none, List.contains_cons, List.contains_nil, beq_self_eq_true, beq_iff_eq, dbin, dIntBin, List.append_nil, ptrArgs, callArgs, Option.isSome_none, Option.some.injEq, lenMs, AVB]
    | (refine drW_intro (by kernel_rfl) ?_)
    | (refine gw_intro (fun h => ?_) (fun h => ?_) <;> (try simp only [beq_true, beq_false, Bool.not_eq_eq_eq_not, Bool.not_true, Bool.not_false, Bool.not_not, decide_eq_true_eq, decide_eq_false_iff_not, ge_iff_le, gt_iff_lt] at h)))
      refine hx _ _ ?_
      repeat' (first
    | simp only [*, guardG, opG, inB, sval, stake, eats, eaters, get, cval, cval1, croom, endQ, endR, endV, rvars, rvar, room1, ↓reduceIte, Nat.reduceLT, List.filterMap_cons, List.filterMap_nil, List.contains_cons, List.contains_nil, List.map_nil, pureB, leaf, leafN, List.append_nil, List.take_nil, vroom, notAgg, AVB]
    | (refine drW_intro (by kernel_rfl) ?_)
    | (refine gw_intro (fun h => ?_) (fun h => ?_) <;> (try simp only [beq_true, beq_false, Bool.not_eq_eq_eq_not, Bool.not_true, Bool.not_false, Bool.not_not, decide_eq_true_eq, decide_eq_false_iff_not, ge_iff_le, gt_iff_lt] at h)))
end Go.Av
namespace Go.Av
open Go.Proofs
variable [Ek] {chk : List D → Bool}
def parD (acc : List Nd) (m : Mv) : Int := if acc = [] then -1 else if m.dn = true then (acc.length : Int) - 1 else (match acc[acc.length - 1]? with | some n => n.p | none => -1)
def docStep (acc : List Nd) (m : Mv) : List Nd := acc ++ [m.nd.at' (parD acc m)]
def docT (ms : List Mv) (i : Nat) : List Nd := (ms.take i).foldl docStep []
theorem docT_zero (ms : List Mv) : docT ms 0 = [] := rfl
theorem docT_succ {ms : List Mv} {i : Nat} {m : Mv} (h : ms[i]? = some m) : docT ms (i + 1) = docT ms i ++ [m.nd.at' (parD (docT ms i) m)] := by
  unfold docT
  rw [List.take_add_one, h]
  simp [docStep]
theorem docT_len {ms : List Mv} : ∀ {i : Nat}, i ≤ ms.length → (docT ms i).length = i
  | 0, _ => rfl
  | i + 1, h => by
    obtain ⟨m, hm⟩ := some_at (show i < ms.length by omega)
    rw [docT_succ hm, List.length_append, docT_len (by omega)]
    rfl
theorem parD_zero (m : Mv) : parD [] m = -1 := rfl
theorem parD_dn {acc : List Nd} {m : Mv} {j : Nat} (h : acc.length = j + 1) (hd : m.dn = true) : parD acc m = (j : Int) := by
  unfold parD
  rw [if_neg (by intro e; rw [e] at h; cases h), if_pos hd, h]
  omega
theorem parD_no {acc : List Nd} {m : Mv} {j : Nat} {y : Nd} (h : acc.length = j + 1) (hd : m.dn = false) (hy : acc[j]? = some y) : parD acc m = y.p := by
  unfold parD
  rw [if_neg (by intro e; rw [e] at h; cases h), if_neg (by rw [hd]; decide), h, Nat.add_sub_cancel, hy]
theorem wrapM (j : Nat) (h : j ≤ 1000000) : IntKind.i64.wrap (((j + 1 : Nat) : Int) - 1) = (j : Int) := by rw [wrap64 _ (by omega) (by omega)]; omega
set_option maxHeartbeats 16000000 in
theorem rdoc_L (ms : List Mv) (hl : ms.length ≤ 1000000) : callL Tryd.prog (ext11b chk) 23 [.list (ms.map Mv.d)] [] = some (.list ((docT ms ms.length).map Nd.d), [roomN (docT ms ms.length)], []) := by
  have lN := lenMv ms
  have HL := Hd.mk hl
  clear hl
  refine callK (m := 45) (res := [2]) (rs := [.tmp 2]) rfl Tryd.func23 rfl rfl rfl rfl rfl ?_
  repeat' (first
    | simp only [*, guardG, opG, inB, sval, stake, eats, eaters, get, cval, cval1, croom, St.taken, ↓reduceIte, Nat.reduceLT, List.filterMap_cons, List.filterMap_nil, Option.map_some, List.contains_cons, List.contains_nil, List.map_nil, Nat.reduceBEq, List.append_nil, List.length_nil, vroom, bs22e, bt22, AVB]
    | (refine drW_intro (by kernel_rfl) ?_)
    | (refine gw_intro (fun h => ?_) (fun h => ?_) <;> (try simp only [beq_true, beq_false, Bool.not_eq_eq_eq_not, Bool.not_true, Bool.not_false, Bool.not_not, decide_eq_true_eq, decide_eq_false_iff_not, ge_iff_le, gt_iff_lt] at h)))
  refine loopH (fun st => ∃ i : Nat, i ≤ ms.length ∧ st.slot 4 = .int .i64 i ∧ st.slot 0 = .list (ms.map Mv.d) ∧ st.slot 3 = .list ((docT ms i).map Nd.d) ∧ st.room 3 = [roomN (docT ms i)]) (fun st => ms.length - slotI st 4) ?_ ?_
  · refine ⟨0, Nat.zero_le _, ?_, ?_, ?_, ?_⟩
    all_goals simp only [*, put_slot, put_room, dem_slot, entry_slot, ↓reduceIte, Nat.reduceEqDiff, reduceCtorEq, List.getD_cons_zero, and_true, List.cons.injEq]
    all_goals rfl
  · rintro st K ⟨i, hi, g4, g0, g3, r3⟩ hn hx hr
    have hl : ms.length ≤ 1000000 := HL
    by_cases h : i < ms.length
    · have g9 : (i : Int) < ms.length := by omega
      have hw := wrapS i (by omega)
      obtain ⟨m, hm⟩ := some_at h
      have hb := getD_map (f := Mv.d) hm
      rw [mvat] at hb
      have hre := docT_succ hm
      have hAl := docT_len (ms := ms) (i := i) hi
      obtain ⟨A, hA⟩ : ∃ A, A = docT ms i := ⟨_, rfl⟩
      rw [← hA] at hre hAl g3 r3
      obtain ⟨z, hz⟩ : ∃ z, z = m.nd.at' (parD A m) := ⟨_, rfl⟩
      rw [← hz] at hre
      have hro := roomN_ok A
      have hra := roomN_app A z
      have hsz := szN A
      have hl1 : (A.map Nd.d).length + 1 ≤ 1073741824 := by rw [List.length_map]; omega
      have hl2 : (A.map Nd.d).length ≤ 1073741823 := by rw [List.length_map]; omega
      have hap := apN A z
      rw [hz, atat] at hap
      have LA := lenM0 A Nd.d
      rw [hAl] at LA
      clear hA
      rw [hz] at hre hra
      clear hz z
      obtain ⟨Q, hQ⟩ : ∃ Q, docT ms (i + 1) = Q := ⟨_, rfl⟩
      have HQ := Hd.mk hQ
      have hq : Q.map Nd.d = A.map Nd.d ++ [.agg [.int .i64 (parD A m), .int .i64 m.nd.k, .str m.nd.sp, .str m.nd.nm, .list (m.nd.at_.map At.d), .list (m.nd.st.map .str), .str m.nd.tx]] := by rw [← hQ, hre]; exact hap
      have hqr : roomN Q = .own 28 := by rw [← hQ, hre]; exact hra
      have hs1 : szOk 7 [D.agg [.int .i64 (parD A m), .int .i64 m.nd.k, .str m.nd.sp, .str m.nd.nm, .list (m.nd.at_.map At.d), .list (m.nd.st.map .str), .str m.nd.tx]] = true := rfl
      have HI := Hd.mk h
      clear hQ hre hap hra
      cases i with
      | zero =>
        have hA0 : A = [] := List.length_eq_zero_iff.1 hAl
        subst hA0
        rw [parD_zero] at hq hs1
        have z0 : decide (((0 : Nat) : Int) > 0) = false := rfl
        clear hm hl h hr hx hi hAl LA
        obtain ⟨dn, ⟨p, k, sp, nm, la, ls, tx⟩⟩ := m
        simp only [] at hb hq hs1
        generalize la.map At.d = LA at *
        generalize ls.map D.str = LS at *
        repeat' (first
    | simp only [*, guardG, opG, inB, sval, stake, eats, eaters, get, cval, cval1, croom, St.taken, ↓reduceIte, Nat.reduceEqDiff, Nat.reduceLT, Nat.reduceLeDiff, reduceCtorEq, List.filterMap_cons, List.filterMap_nil, Option.bind_some, Option.map_some, Option.bind_none, List.getElem?_cons_zero, List.getElem?_cons_succ, List.contains_cons, List.contains_nil, List.map_cons, List.map_nil, beq_self_eq_true, beq_iff_eq, Nat.reduceBEq, dbin, dIntBin, pureB, leaf, leafN, List.all_cons, List.all_nil, List.nil_append, List.cons_append, List.append_nil, List.length_nil, List.length_cons, List.take_zero, List.drop_zero, List.drop_succ_cons, dcells, Nat.reduceAdd, stepBox, List.cons.injEq, List.getElem?_toArray, gt_iff_lt, takes, ptrArgs, callArgs, given, oroom, vroom, Option.isSome_none, stepTake, ap22, bs22, Option.some.injEq, List.drop_succ_cons, List.drop_nil, List.drop_zero, bt22, lenOk_small, dpM1, faM_1, iaM, lenMs, putR1, List.cons_append, List.nil_append, AVB]
    | (refine drW_intro (by kernel_rfl) ?_)
    | (refine gw_intro (fun h => ?_) (fun h => ?_) <;> (try simp only [beq_true, beq_false, Bool.not_eq_eq_eq_not, Bool.not_true, Bool.not_false, Bool.not_not, decide_eq_true_eq, decide_eq_false_iff_not, ge_iff_le, gt_iff_lt] at h)))
        have hi2 : 0 < ms.length := HI
        refine hn _ ⟨0 + 1, hi2, ?_, ?_, ?_, ?_⟩ ?_
        · simp only [*, put_slot, ↓reduceIte]
        · simp only [*, put_slot, dem_slot, setBox_slot, ↓reduceIte, reduceCtorEq]
        · rw [show docT ms (0 + 1) = Q from HQ]
          simp only [*, put_slot, dem_slot, ↓reduceIte, Nat.reduceEqDiff, List.map_nil, List.nil_append, List.nil_append]
        · rw [show docT ms (0 + 1) = Q from HQ]
          simp only [*, put_room, dem_room, ↓reduceIte, Nat.reduceEqDiff]
        · simp only [slotI, *, put_slot, ↓reduceIte, Int.toNat_natCast]
          omega
      | succ j =>
        have z0 : decide (((j + 1 : Nat) : Int) > 0) = true := by rw [decide_eq_true_eq]; omega
        have z2 : ((j + 1 : Nat) : Int) > 0 := by omega
        have z1 : (j : Int) < ((j + 1 : Nat) : Int) := by omega
        have hwm := wrapM j (by omega)
        have hl3 : j + 1 + 1 ≤ 1073741824 := by omega
        have hl4 : j + 1 ≤ 1073741823 := by omega
        obtain ⟨y, hy⟩ := some_at (show j < A.length by omega)
        cases hdn : m.dn with
        | true =>
          rw [parD_dn hAl hdn] at hq hs1
          rw [hdn] at hb
          clear hm hl h hr hx hi hAl hy hdn
          obtain ⟨dn, ⟨p, k, sp, nm, la, ls, tx⟩⟩ := m
          simp only [] at hb hq hs1
          generalize la.map At.d = LA' at *
          generalize ls.map D.str = LS at *
          repeat' (first
    | simp only [*, guardG, opG, inB, sval, stake, eats, eaters, get, cval, cval1, croom, St.taken, ↓reduceIte, Nat.reduceEqDiff, Nat.reduceLT, Nat.reduceLeDiff, reduceCtorEq, List.filterMap_cons, List.filterMap_nil, Option.bind_some, Option.map_some, Option.bind_none, List.getElem?_cons_zero, List.getElem?_cons_succ, List.contains_cons, List.contains_nil, List.map_cons, List.map_nil, beq_self_eq_true, beq_iff_eq, Nat.reduceBEq, dbin, dIntBin, pureB, leaf, leafN, List.all_cons, List.all_nil, List.nil_append, List.cons_append, List.append_nil, List.length_nil, List.length_cons, List.take_zero, List.drop_zero, List.drop_succ_cons, dcells, Nat.reduceAdd, stepBox, List.cons.injEq, List.getElem?_toArray, gt_iff_lt, takes, ptrArgs, callArgs, given, oroom, vroom, Option.isSome_none, stepTake, ap22, bs22, Option.some.injEq, List.drop_succ_cons, List.drop_nil, List.drop_zero, bt22, lenOk_small, dpM1, faM_0, faM_1, iaM, lenMs, putR1, List.cons_append, List.nil_append, AVB]
    | (refine drW_intro (by kernel_rfl) ?_)
    | (refine gw_intro (fun h => ?_) (fun h => ?_) <;> (try simp only [beq_true, beq_false, Bool.not_eq_eq_eq_not, Bool.not_true, Bool.not_false, Bool.not_not, decide_eq_true_eq, decide_eq_false_iff_not, ge_iff_le, gt_iff_lt] at h)))
          have hi2 : (j + 1) < ms.length := HI
          refine hn _ ⟨(j + 1) + 1, hi2, ?_, ?_, ?_, ?_⟩ ?_
          · simp only [*, put_slot, ↓reduceIte]
          · simp only [*, put_slot, dem_slot, setBox_slot, ↓reduceIte, reduceCtorEq]
          · rw [show docT ms ((j + 1) + 1) = Q from HQ]
            simp only [*, put_slot, dem_slot, ↓reduceIte, Nat.reduceEqDiff]
          · rw [show docT ms ((j + 1) + 1) = Q from HQ]
            simp only [*, put_room, dem_room, ↓reduceIte, Nat.reduceEqDiff]
          · simp only [slotI, *, put_slot, ↓reduceIte, Int.toNat_natCast]
            omega
        | false =>
          rw [parD_no hAl hdn hy] at hq hs1
          rw [hdn] at hb
          have hyd := getD_map (f := Nd.d) hy
          rw [ndat] at hyd
          clear hm hl h hr hx hi hAl hy hdn
          obtain ⟨dn, ⟨p, k, sp, nm, la, ls, tx⟩⟩ := m
          simp only [] at hb hq hs1
          generalize la.map At.d = LA' at *
          generalize ls.map D.str = LS at *
          generalize y.at_.map At.d = YA at *
          generalize y.st.map D.str = YS at *
          repeat' (first
    | simp only [*, guardG, opG, inB, sval, stake, eats, eaters, get, cval, cval1, croom, St.taken, ↓reduceIte, Nat.reduceEqDiff, Nat.reduceLT, Nat.reduceLeDiff, reduceCtorEq, List.filterMap_cons, List.filterMap_nil, Option.bind_some, Option.map_some, Option.bind_none, List.getElem?_cons_zero, List.getElem?_cons_succ, List.contains_cons, List.contains_nil, List.map_cons, List.map_nil, beq_self_eq_true, beq_iff_eq, Nat.reduceBEq, dbin, dIntBin, pureB, leaf, leafN, List.all_cons, List.all_nil, List.nil_append, List.cons_append, List.append_nil, List.length_nil, List.length_cons, List.take_zero, List.drop_zero, List.drop_succ_cons, dcells, Nat.reduceAdd, stepBox, List.cons.injEq, List.getElem?_toArray, gt_iff_lt, takes, ptrArgs, callArgs, given, oroom, vroom, Option.isSome_none, stepTake, ap22, bs22, Option.some.injEq, List.drop_succ_cons, List.drop_nil, List.drop_zero, bt22, lenOk_small, dpM1, faM_0, faM_1, iaM, lenMs, putR1, List.cons_append, List.nil_append, AVB]
    | (refine drW_intro (by kernel_rfl) ?_)
    | (refine gw_intro (fun h => ?_) (fun h => ?_) <;> (try simp only [beq_true, beq_false, Bool.not_eq_eq_eq_not, Bool.not_true, Bool.not_false, Bool.not_not, decide_eq_true_eq, decide_eq_false_iff_not, ge_iff_le, gt_iff_lt] at h)))
          have hi2 : (j + 1) < ms.length := HI
          refine hn _ ⟨(j + 1) + 1, hi2, ?_, ?_, ?_, ?_⟩ ?_
          · simp only [*, put_slot, ↓reduceIte]
          · simp only [*, put_slot, dem_slot, setBox_slot, ↓reduceIte, reduceCtorEq]
          · rw [show docT ms ((j + 1) + 1) = Q from HQ]
            simp only [*, put_slot, dem_slot, ↓reduceIte, Nat.reduceEqDiff]
          · rw [show docT ms ((j + 1) + 1) = Q from HQ]
            simp only [*, put_room, dem_room, ↓reduceIte, Nat.reduceEqDiff]
          · simp only [slotI, *, put_slot, ↓reduceIte, Int.toNat_natCast]
            omega
    · obtain rfl : i = ms.length := by omega
      have g9 : ¬ (ms.length : Int) < ms.length := by omega
      clear hn hr hl h
      repeat' (first
    | simp only [*, guardG, opG, inB, sval, stake, eats, eaters, get, St.taken, ↓reduceIte, Nat.reduceEqDiff, Nat.reduceLT, reduceCtorEq, List.filterMap_cons, List.filterMap_nil, Option.map_some, Option.bind_none, List.contains_cons, List.contains_nil, Nat.reduceBEq, dbin, dIntBin, List.append_nil, ptrArgs, callArgs, Option.isSome_none, lenMs, AVB]
    | (refine drW_intro (by kernel_rfl) ?_)
    | (refine gw_intro (fun h => ?_) (fun h => ?_) <;> (try simp only [beq_true, beq_false, Bool.not_eq_eq_eq_not, Bool.not_true, Bool.not_false, Bool.not_not, decide_eq_true_eq, decide_eq_false_iff_not, ge_iff_le, gt_iff_lt] at h)))
      refine hx _ _ ?_
      repeat' (first
    | simp only [*, guardG, opG, inB, sval, stake, eats, eaters, get, St.taken, endQ, endR, endV, rvars, rvar, room1, ↓reduceIte, Nat.reduceEqDiff, Nat.reduceLT, List.filterMap_cons, List.filterMap_nil, List.contains_cons, List.contains_nil, List.map_nil, beq_self_eq_true, beq_iff_eq, Nat.reduceBEq, pureB, leaf, leafN, List.append_nil, List.take_nil, List.take_succ_cons, notAgg, Option.some.injEq, AVB]
    | (refine drW_intro (by kernel_rfl) ?_)
    | (refine gw_intro (fun h => ?_) (fun h => ?_) <;> (try simp only [beq_true, beq_false, Bool.not_eq_eq_eq_not, Bool.not_true, Bool.not_false, Bool.not_not, decide_eq_true_eq, decide_eq_false_iff_not, ge_iff_le, gt_iff_lt] at h)))
end Go.Av
namespace Go.Av
open Go.Proofs
variable [Ek] {chk : List D → Bool}
theorem isNode_d {n : Nd} (h : SmallN n) : isNode n.d = true := by
  show ((n.at_.map At.d).all (fun e => (dcells e).length == 3) && (n.st.map D.str).all (fun e => (dcells e).length == 1) && decide ((n.at_.map At.d).length ≤ 1000000) && decide ((n.st.map D.str).length ≤ 1000000)) = true
  simp only [Bool.and_eq_true, List.all_eq_true, decide_eq_true_eq, List.length_map]
  refine ⟨⟨⟨?_, ?_⟩, h.1⟩, h.2.1⟩ <;> intro e he <;> obtain ⟨x, _, rfl⟩ := List.mem_map.1 he <;> rfl
theorem ext_cl {f : FuncId} {args : List D} {pbs : List Bx} {r : D × List Room × List Bx} (h0 : extF f args pbs = none) (h1 : extKc chk f args pbs = none) (h : extCl f args pbs = some r) : ext11b chk f args pbs = some r := by
  unfold ext11b ext17 ext17a orExt
  rw [h0, h1, h]
theorem copied_L (n : Nd) (h : SmallN n) : callL Tryd.prog (ext11b chk) 29 [n.d] [] = some (n.d, [], []) := by
  refine callL_ext (ext_cl rfl rfl ?_)
  show (if isNode n.d = true then some (n.d, ([] : List Room), ([] : List Bx)) else none) = _
  rw [if_pos (isNode_d h)]
def docD (ms : List Mv) : D := if pathF ms = -1 then .tuple [.list ((docT ms ms.length).map Nd.d), .con .nilIface] else .tuple [.list [], faultD 10 (pathF ms)]
def docR (ms : List Mv) : List Room := if pathF ms = -1 then [roomN (docT ms ms.length), .no] else [.full, .no]
theorem doc_nil : callL Tryd.prog (ext11b chk) 9 [.list []] [] = some (.tuple [.list [], faultD 15 0], [.full, .no], []) := by
  have h1 := fail_L (chk := chk) 15 0
  unfold faultD at *
  have z0 : (((0 : Nat) : Int) == 0) = true := rfl
  have ln : (([] : List D).length : Int) = ((0 : Nat) : Int) := rfl
  refine callK (m := 63) (res := [2, 3]) (rs := [.tmp 2, .tmp 3]) rfl Tryd.func9 rfl rfl rfl rfl rfl ?_
  repeat' (first
    | simp only [*, guardG, opG, inB, sval, stake, eats, eaters, get, cval, cval1, croom, St.taken, endQ, endR, endV, rvars, rvar, room1, ↓reduceIte, Nat.reduceEqDiff, Nat.reduceLT, reduceCtorEq, List.filterMap_cons, List.filterMap_nil, Option.bind_some, Option.map_some, Option.bind_none, List.getD_cons_zero, List.contains_cons, List.contains_nil, List.map_cons, List.map_nil, beq_self_eq_true, Nat.reduceBEq, dbin, dIntBin, okR, callG, pureB, leaf, leafN, List.all_cons, List.all_nil, List.nil_append, List.append_nil, List.take_nil, List.length_nil, List.getElem?_nil, List.take_succ_cons, ptrArgs, callArgs, vroom, Option.isSome_none, notAgg, ite_self, lenMs, List.nil_append, AVB]
    | (refine drW_intro (by kernel_rfl) ?_)
    | (refine gw_intro (fun h => ?_) (fun h => ?_) <;> (try simp only [beq_true, beq_false, Bool.not_eq_eq_eq_not, Bool.not_true, Bool.not_false, Bool.not_not, decide_eq_true_eq, decide_eq_false_iff_not, ge_iff_le, gt_iff_lt] at h)))
set_option maxHeartbeats 16000000 in
theorem doc_L (ms : List Mv) (h0 : ms ≠ []) (hl : ms.length ≤ 1000000) (hS : ∀ m ∈ ms, SmallN m.nd) : callL Tryd.prog (ext11b chk) 9 [.list (ms.map Mv.d)] [] = some (docD ms, docR ms, []) := by
  have lN := lenMv ms
  have hfl : ∀ a, callL Tryd.prog (ext11b chk) 28 [.int .i64 10, .int .i64 a] [] = some (faultD 10 a, [], []) := fun a => fail_L (chk := chk) 10 a
  unfold faultD at hfl
  obtain ⟨R, hR⟩ : ∃ R, Hd (R = pathF ms) := ⟨_, rfl⟩
  obtain ⟨DD, hDD⟩ : ∃ DD, DD = docD ms := ⟨_, rfl⟩
  obtain ⟨DR, hDR⟩ : ∃ DR, DR = docR ms := ⟨_, rfl⟩
  have hbadD : ∀ i : Nat, R = (i : Int) → DD = .tuple [.list [], .iface 66 (.fix (.agg [.int .i64 10, .int .i64 (i : Nat), .con .nilIface]) 0)] := by
    intro i hi
    have e : pathF ms = (i : Int) := (show R = pathF ms from hR).symm.trans hi
    rw [hDD, docD, e, if_neg (by omega)]
    rfl
  have hbadR : ∀ i : Nat, R = (i : Int) → DR = [.full, .no] := by
    intro i hi
    have e : pathF ms = (i : Int) := (show R = pathF ms from hR).symm.trans hi
    rw [hDR, docR, e, if_neg (by omega)]
  have hendD : R = -1 → DD = .tuple [.list ((docT ms ms.length).map Nd.d), .con .nilIface] := by
    intro hi
    rw [hDD, docD, if_pos ((show R = pathF ms from hR).symm.trans hi)]
  have hendR : R = -1 → DR = [roomN (docT ms ms.length), .no] := by
    intro hi
    rw [hDR, docR, if_pos ((show R = pathF ms from hR).symm.trans hi)]
  rw [← hDD, ← hDR]
  clear hDD hDR
  replace hbadD := Hd.mk hbadD
  replace hbadR := Hd.mk hbadR
  replace hendD := Hd.mk hendD
  replace hendR := Hd.mk hendR
  have HS : Hd (∀ m ∈ ms, SmallN m.nd) := hS
  have HL := Hd.mk hl
  have hz : ((ms.length : Int) == 0) = false := by
    have : ms.length ≠ 0 := fun e => h0 (List.length_eq_zero_iff.1 e)
    simp
    omega
  clear hS hl h0
  refine callK (m := 63) (res := [2, 3]) (rs := [.tmp 2, .tmp 3]) rfl Tryd.func9 rfl rfl rfl rfl rfl ?_
  repeat' (first
    | simp only [*, guardG, opG, inB, sval, stake, eats, eaters, get, cval, cval1, croom, St.taken, ↓reduceIte, Nat.reduceLT, reduceCtorEq, List.filterMap_cons, List.filterMap_nil, Option.map_some, Option.bind_none, List.getD_cons_zero, List.contains_cons, List.contains_nil, Nat.reduceBEq, dbin, dIntBin, List.append_nil, List.length_nil, ptrArgs, callArgs, vroom, Option.isSome_none, lenMs, AVB]
    | (refine drW_intro (by kernel_rfl) ?_)
    | (refine gw_intro (fun h => ?_) (fun h => ?_) <;> (try simp only [beq_true, beq_false, Bool.not_eq_eq_eq_not, Bool.not_true, Bool.not_false, Bool.not_not, decide_eq_true_eq, decide_eq_false_iff_not, ge_iff_le, gt_iff_lt] at h)))
  refine loopH (fun st => ∃ i : Nat, i ≤ ms.length ∧ st.slot 13 = .int .i64 i ∧ st.slot 11 = .list (ms.map Mv.d) ∧ st.slot 12 = .int .i64 ms.length ∧ st.slot 3 = .con .nilIface ∧ st.slot 2 = .list ((docT ms i).map Nd.d) ∧ st.room 2 = [roomN (docT ms i)] ∧ Hd (R = pathG i (ms.drop i))) (fun st => ms.length - slotI st 13) ?_ ?_
  · refine ⟨0, Nat.zero_le _, ?_, ?_, ?_, ?_, ?_, ?_, hR⟩
    all_goals simp only [*, put_slot, put_room, ↓reduceIte, Nat.reduceEqDiff, and_true, List.cons.injEq]
    all_goals rfl
  · rintro st K ⟨i, hi, g13, g11, g12, g3, g2, r2, hO⟩ hn hx hr
    have hl : ms.length ≤ 1000000 := HL
    by_cases h : i < ms.length
    · have g9 : (i : Int) < ms.length := by omega
      have hw := wrapS i (by omega)
      obtain ⟨m, hm⟩ := some_at h
      have hO' : R = pathG i (ms.drop i) := hO
      rw [pathG_at hm] at hO'
      have hb := getD_map (f := Mv.d) hm
      rw [mvat] at hb
      have hsm : SmallN m.nd := (show ∀ m ∈ ms, SmallN m.nd from HS) m (List.mem_of_getElem? hm)
      have h1 := copied_L (chk := chk) m.nd hsm
      have h2 := pright_L (chk := chk) m.nd hsm
      rw [ndat] at h1 h2
      have hre := docT_succ hm
      have hAl := docT_len (ms := ms) (i := i) hi
      obtain ⟨A, hA⟩ : ∃ A, A = docT ms i := ⟨_, rfl⟩
      rw [← hA] at hre hAl g2 r2
      obtain ⟨z, hz'⟩ : ∃ z, z = m.nd.at' (parD A m) := ⟨_, rfl⟩
      rw [← hz'] at hre
      have hro := roomN_ok A
      have hra := roomN_app A z
      have hsz := szN A
      have hl1 : (A.map Nd.d).length + 1 ≤ 1073741824 := by rw [List.length_map]; omega
      have hl2 : (A.map Nd.d).length ≤ 1073741823 := by rw [List.length_map]; omega
      have hap := apN A z
      rw [hz', atat] at hap
      have LA := lenM0 A Nd.d
      rw [hAl] at LA
      clear hA
      rw [hz'] at hre hra
      clear hz' z
      obtain ⟨Q, hQ⟩ : ∃ Q, docT ms (i + 1) = Q := ⟨_, rfl⟩
      have HQ := Hd.mk hQ
      have hq : Q.map Nd.d = A.map Nd.d ++ [.agg [.int .i64 (parD A m), .int .i64 m.nd.k, .str m.nd.sp, .str m.nd.nm, .list (m.nd.at_.map At.d), .list (m.nd.st.map .str), .str m.nd.tx]] := by rw [← hQ, hre]; exact hap
      have hqr : roomN Q = .own 28 := by rw [← hQ, hre]; exact hra
      have hs1 : szOk 7 [D.agg [.int .i64 (parD A m), .int .i64 m.nd.k, .str m.nd.sp, .str m.nd.nm, .list (m.nd.at_.map At.d), .list (m.nd.st.map .str), .str m.nd.tx]] = true := rfl
      have HI := Hd.mk h
      unfold badM at hO'
      obtain ⟨B, hB⟩ : ∃ B, B = ownB m.nd := ⟨_, rfl⟩
      simp only [← hB] at hO' h2
      clear hQ hre hap hra hB hsm
      cases B with
      | false =>
        replace hO' : R = (i : Int) := hO'
        obtain ⟨dn, ⟨p, k, sp, nm, la, ls, tx⟩⟩ := m
        clear hm hl h hO hx hi hAl LA hq hs1 hl1 hl2 hsz hro
        simp only [] at hb h1 h2
        generalize la.map At.d = LA at *
        generalize ls.map D.str = LS at *
        have hD := (show ∀ i : Nat, R = (i : Int) → _ from hbadD) i hO'
        have hR2 := (show ∀ i : Nat, R = (i : Int) → _ from hbadR) i hO'
        clear hn hO' hbadD hbadR hendD hendR
        repeat' (first
    | simp only [*, guardG, opG, inB, sval, stake, eats, eaters, get, cval, cval1, croom, St.taken, ↓reduceIte, Nat.reduceEqDiff, Nat.reduceLT, Nat.reduceLeDiff, List.filterMap_cons, List.filterMap_nil, Option.bind_some, Option.map_some, List.contains_cons, List.contains_nil, List.map_cons, List.map_nil, beq_self_eq_true, Nat.reduceBEq, dbin, dIntBin, okR, callG, pureB, leaf, leafN, List.all_cons, List.all_nil, List.nil_append, List.append_nil, List.length_nil, List.length_cons, dun, List.take_zero, List.drop_succ_cons, dcells, Nat.reduceAdd, stepBox, takes, ptrArgs, callArgs, given, oroom, vroom, Option.isSome_none, List.drop_succ_cons, List.drop_nil, tyM, dpM, dpM1, fpM_1, zrM, zrmM, iaM, putR8, List.nil_append, AVB]
    | (refine drW_intro (by kernel_rfl) ?_)
    | (refine gw_intro (fun h => ?_) (fun h => ?_) <;> (try simp only [beq_true, beq_false, Bool.not_eq_eq_eq_not, Bool.not_true, Bool.not_false, Bool.not_not, decide_eq_true_eq, decide_eq_false_iff_not, ge_iff_le, gt_iff_lt] at h)))
        refine hr _ ?_
        repeat' (first
    | simp only [*, endQ, endR, endV, rvars, rvar, room1, ↓reduceIte, Nat.reduceEqDiff, List.map_cons, List.map_nil, pureB, leaf, leafN, List.take_nil, List.take_succ_cons, notAgg, AVB]
    | (refine drW_intro (by kernel_rfl) ?_)
    | (refine gw_intro (fun h => ?_) (fun h => ?_) <;> (try simp only [beq_true, beq_false, Bool.not_eq_eq_eq_not, Bool.not_true, Bool.not_false, Bool.not_not, decide_eq_true_eq, decide_eq_false_iff_not, ge_iff_le, gt_iff_lt] at h)))
      | true =>
        cases i with
        | zero =>
          have hA0 : A = [] := List.length_eq_zero_iff.1 hAl
          subst hA0
          rw [parD_zero] at hq hs1
          have z0 : (((0 : Nat) : Int) == 0) = true := rfl
          have z1 : (((0 : Nat) : Int) == 1) = false := rfl
          cases hdn : m.dn with
          | true =>
            rw [hdn] at hO' hb
            replace hO' : R = ((0 : Nat) : Int) := hO'
            clear hm hl h hO hx hi hAl LA hdn hq hs1
            obtain ⟨dn, ⟨p, k, sp, nm, la, ls, tx⟩⟩ := m
            simp only [] at hb h1 h2
            generalize la.map At.d = LA at *
            generalize ls.map D.str = LS at *
            have hD := (show ∀ i : Nat, R = (i : Int) → _ from hbadD) 0 hO'
            have hR2 := (show ∀ i : Nat, R = (i : Int) → _ from hbadR) 0 hO'
            clear hn hO' hbadD hbadR hendD hendR
            repeat' (first
    | simp only [*, guardG, opG, inB, sval, stake, eats, eaters, get, cval, cval1, croom, St.taken, ↓reduceIte, Nat.reduceEqDiff, Nat.reduceLT, Nat.reduceLeDiff, List.filterMap_cons, List.filterMap_nil, Option.bind_some, Option.map_some, List.getElem?_cons_zero, List.getElem?_cons_succ, List.contains_cons, List.contains_nil, List.map_cons, List.map_nil, beq_self_eq_true, Nat.reduceBEq, dbin, dIntBin, okR, callG, pureB, leaf, leafN, List.all_cons, List.all_nil, List.nil_append, List.append_nil, List.length_nil, List.length_cons, dun, List.take_zero, List.drop_succ_cons, dcells, Nat.reduceAdd, stepBox, takes, ptrArgs, callArgs, given, oroom, vroom, Option.isSome_none, stepTake, List.drop_succ_cons, List.drop_nil, tyM, dpM, dpM1, fpM_0, fpM_1, zrM, zrmM, iaM, putR8, List.nil_append, AVB]
    | (refine drW_intro (by kernel_rfl) ?_)
    | (refine gw_intro (fun h => ?_) (fun h => ?_) <;> (try simp only [beq_true, beq_false, Bool.not_eq_eq_eq_not, Bool.not_true, Bool.not_false, Bool.not_not, decide_eq_true_eq, decide_eq_false_iff_not, ge_iff_le, gt_iff_lt] at h)))
            refine hr _ ?_
            repeat' (first
    | simp only [*, endQ, endR, endV, rvars, rvar, room1, ↓reduceIte, Nat.reduceEqDiff, List.map_cons, List.map_nil, pureB, leaf, leafN, List.take_nil, List.take_succ_cons, notAgg, AVB]
    | (refine drW_intro (by kernel_rfl) ?_)
    | (refine gw_intro (fun h => ?_) (fun h => ?_) <;> (try simp only [beq_true, beq_false, Bool.not_eq_eq_eq_not, Bool.not_true, Bool.not_false, Bool.not_not, decide_eq_true_eq, decide_eq_false_iff_not, ge_iff_le, gt_iff_lt] at h)))
          | false =>
            rw [hdn] at hO' hb
            replace hO' : R = pathG (0 + 1) (ms.drop (0 + 1)) := hO'
            have HO2 := Hd.mk hO'
            clear hm hl h hO hO' hr hx hi hAl LA hdn hbadD hbadR hendD hendR
            obtain ⟨dn, ⟨p, k, sp, nm, la, ls, tx⟩⟩ := m
            simp only [] at hb h1 h2 hq hs1
            generalize la.map At.d = LA at *
            generalize ls.map D.str = LS at *
            repeat' (first
    | simp only [*, guardG, opG, inB, sval, stake, eats, eaters, get, cval, cval1, croom, St.taken, ↓reduceIte, Nat.reduceEqDiff, Nat.reduceLT, Nat.reduceLeDiff, List.filterMap_cons, List.filterMap_nil, Option.bind_some, Option.map_some, Option.bind_none, List.getElem?_cons_zero, List.getElem?_cons_succ, List.contains_cons, List.contains_nil, List.map_cons, List.map_nil, beq_self_eq_true, Nat.reduceBEq, dbin, dIntBin, okR, callG, pureB, leaf, leafN, List.all_cons, List.all_nil, List.nil_append, List.cons_append, List.append_nil, List.length_nil, List.length_cons, dun, List.take_zero, List.drop_zero, List.drop_succ_cons, dcells, Nat.reduceAdd, stepBox, List.cons.injEq, List.getElem?_toArray, takes, ptrArgs, callArgs, given, oroom, vroom, Option.isSome_none, stepTake, ap22, bs22, List.drop_succ_cons, List.drop_nil, List.drop_zero, bt22, lenOk_small, tyM, dpM, dpM1, fpM_0, fpM_1, zrM, zrmM, iaM, putR8, putR1, List.cons_append, List.nil_append, AVB]
    | (refine drW_intro (by kernel_rfl) ?_)
    | (refine gw_intro (fun h => ?_) (fun h => ?_) <;> (try simp only [beq_true, beq_false, Bool.not_eq_eq_eq_not, Bool.not_true, Bool.not_false, Bool.not_not, decide_eq_true_eq, decide_eq_false_iff_not, ge_iff_le, gt_iff_lt] at h)))
            have hi2 : 0 < ms.length := HI
            refine hn _ ⟨0 + 1, hi2, ?_, ?_, ?_, ?_, ?_, ?_, HO2⟩ ?_
            · simp only [*, put_slot, ↓reduceIte]
            · simp only [*, put_slot, dem_slot, setBox_slot, ↓reduceIte, Nat.reduceEqDiff]
            · simp only [*, put_slot, dem_slot, setBox_slot, ↓reduceIte, Nat.reduceEqDiff]
            · simp only [*, put_slot, dem_slot, setBox_slot, ↓reduceIte, Nat.reduceEqDiff]
            · rw [show docT ms (0 + 1) = Q from HQ]
              simp only [*, put_slot, ↓reduceIte, Nat.reduceEqDiff, List.map_nil, List.nil_append, List.nil_append]
            · rw [show docT ms (0 + 1) = Q from HQ]
              simp only [*, put_room, ↓reduceIte, Nat.reduceEqDiff]
            · simp only [slotI, *, put_slot, ↓reduceIte, Int.toNat_natCast]
              omega
        | succ j =>
          have z0 : (((j + 1 : Nat) : Int) == 0) = false := by simp; omega
          have z1 : (j : Int) < ((j + 1 : Nat) : Int) := by omega
          have hwm := wrapM j (by omega)
          have hl3 : j + 1 + 1 ≤ 1073741824 := by omega
          have hl4 : j + 1 ≤ 1073741823 := by omega
          obtain ⟨y, hy⟩ := some_at (show j < A.length by omega)
          cases hdn : m.dn with
          | true =>
            rw [parD_dn hAl hdn] at hq hs1
            rw [hdn] at hb hO'
            have z3 : pathG (j + 1 + 1) (ms.drop (j + 1 + 1)) = R := by
              rw [hO', if_neg (by simp)]
            have HO2 := Hd.mk z3.symm
            clear hm hl h hO hO' hr hx hi hAl hy hdn hbadD hbadR hendD hendR z3
            obtain ⟨dn, ⟨p, k, sp, nm, la, ls, tx⟩⟩ := m
            simp only [] at hb h1 h2 hq hs1
            generalize la.map At.d = LA' at *
            generalize ls.map D.str = LS at *
            by_cases j0 : j = 0
            · subst j0
              have z4 : (((0 + 1 : Nat) : Int) == 1) = true := rfl
              repeat' (first
    | simp only [*, guardG, opG, inB, sval, stake, eats, eaters, get, cval, cval1, St.taken, ↓reduceIte, Nat.reduceEqDiff, Nat.reduceLT, Nat.reduceLeDiff, List.filterMap_cons, List.filterMap_nil, Option.bind_some, Option.map_some, Option.bind_none, List.getElem?_cons_zero, List.getElem?_cons_succ, List.contains_cons, List.contains_nil, List.map_cons, List.map_nil, beq_self_eq_true, Nat.reduceBEq, dbin, dIntBin, okR, callG, pureB, leaf, leafN, List.all_cons, List.all_nil, List.nil_append, List.cons_append, List.append_nil, List.length_nil, List.length_cons, dun, List.take_zero, List.drop_zero, List.drop_succ_cons, dcells, Nat.reduceAdd, stepBox, List.cons.injEq, List.getElem?_toArray, takes, ptrArgs, callArgs, given, oroom, Option.isSome_none, stepTake, ap22, bs22, List.drop_succ_cons, List.drop_nil, List.drop_zero, bt22, lenOk_small, tyM, dpM, dpM1, fpM_0, fpM_1, zrM, zrmM, iaM, putR8, putR1, List.cons_append, List.nil_append, AVB]
    | (refine drW_intro (by kernel_rfl) ?_)
    | (refine gw_intro (fun h => ?_) (fun h => ?_) <;> (try simp only [beq_true, beq_false, Bool.not_eq_eq_eq_not, Bool.not_true, Bool.not_false, Bool.not_not, decide_eq_true_eq, decide_eq_false_iff_not, ge_iff_le, gt_iff_lt] at h)))
              have hi2 : (0 + 1) < ms.length := HI
              refine hn _ ⟨(0 + 1) + 1, hi2, ?_, ?_, ?_, ?_, ?_, ?_, HO2⟩ ?_
              · simp only [*, put_slot, ↓reduceIte]
              · simp only [*, put_slot, dem_slot, setBox_slot, ↓reduceIte, Nat.reduceEqDiff]
              · simp only [*, put_slot, dem_slot, setBox_slot, ↓reduceIte, Nat.reduceEqDiff]
              · simp only [*, put_slot, dem_slot, setBox_slot, ↓reduceIte, Nat.reduceEqDiff]
              · rw [show docT ms ((0 + 1) + 1) = Q from HQ]
                simp only [*, put_slot, ↓reduceIte, Nat.reduceEqDiff]
              · rw [show docT ms ((0 + 1) + 1) = Q from HQ]
                simp only [*, put_room, ↓reduceIte, Nat.reduceEqDiff]
              · simp only [slotI, *, put_slot, ↓reduceIte, Nat.zero_add, Int.toNat_natCast]
                omega
            · have z4 : (((j + 1 : Nat) : Int) == 1) = false := by simp; omega
              clear j0
              repeat' (first
    | simp only [*, guardG, opG, inB, sval, stake, eats, eaters, get, cval, cval1, St.taken, ↓reduceIte, Nat.reduceEqDiff, Nat.reduceLT, Nat.reduceLeDiff, List.filterMap_cons, List.filterMap_nil, Option.bind_some, Option.map_some, Option.bind_none, List.getElem?_cons_zero, List.getElem?_cons_succ, List.contains_cons, List.contains_nil, List.map_cons, List.map_nil, beq_self_eq_true, Nat.reduceBEq, dbin, dIntBin, okR, callG, pureB, leaf, leafN, List.all_cons, List.all_nil, List.nil_append, List.cons_append, List.append_nil, List.length_nil, List.length_cons, dun, List.take_zero, List.drop_zero, List.drop_succ_cons, dcells, Nat.reduceAdd, stepBox, List.cons.injEq, List.getElem?_toArray, takes, ptrArgs, callArgs, given, oroom, Option.isSome_none, stepTake, ap22, bs22, List.drop_succ_cons, List.drop_nil, List.drop_zero, bt22, lenOk_small, tyM, dpM, dpM1, fpM_0, fpM_1, zrM, zrmM, iaM, putR8, putR1, List.cons_append, List.nil_append, AVB]
    | (refine drW_intro (by kernel_rfl) ?_)
    | (refine gw_intro (fun h => ?_) (fun h => ?_) <;> (try simp only [beq_true, beq_false, Bool.not_eq_eq_eq_not, Bool.not_true, Bool.not_false, Bool.not_not, decide_eq_true_eq, decide_eq_false_iff_not, ge_iff_le, gt_iff_lt] at h)))
              have hi2 : (j + 1) < ms.length := HI
              refine hn _ ⟨(j + 1) + 1, hi2, ?_, ?_, ?_, ?_, ?_, ?_, HO2⟩ ?_
              · simp only [*, put_slot, ↓reduceIte]
              · simp only [*, put_slot, dem_slot, setBox_slot, ↓reduceIte, Nat.reduceEqDiff]
              · simp only [*, put_slot, dem_slot, setBox_slot, ↓reduceIte, Nat.reduceEqDiff]
              · simp only [*, put_slot, dem_slot, setBox_slot, ↓reduceIte, Nat.reduceEqDiff]
              · rw [show docT ms ((j + 1) + 1) = Q from HQ]
                simp only [*, put_slot, ↓reduceIte, Nat.reduceEqDiff]
              · rw [show docT ms ((j + 1) + 1) = Q from HQ]
                simp only [*, put_room, ↓reduceIte, Nat.reduceEqDiff]
              · simp only [slotI, *, put_slot, ↓reduceIte, Int.toNat_natCast]
                omega
          | false =>
            rw [parD_no hAl hdn hy] at hq hs1
            rw [hdn] at hb hO'
            have hyd := getD_map (f := Nd.d) hy
            rw [ndat] at hyd
            by_cases j0 : j = 0
            · subst j0
              have z4 : (((0 + 1 : Nat) : Int) == 1) = true := rfl
              replace hO' : R = ((0 + 1 : Nat) : Int) := hO'
              clear hm hl h hO hx hi hAl hy hdn hq hs1
              obtain ⟨dn, ⟨p, k, sp, nm, la, ls, tx⟩⟩ := m
              simp only [] at hb h1 h2
              generalize la.map At.d = LA' at *
              generalize ls.map D.str = LS at *
              have hD := (show ∀ i : Nat, R = (i : Int) → _ from hbadD) (0 + 1) hO'
              have hR2 := (show ∀ i : Nat, R = (i : Int) → _ from hbadR) (0 + 1) hO'
              clear hn hO' hbadD hbadR hendD hendR
              repeat' (first
    | simp only [*, guardG, opG, inB, sval, stake, eats, eaters, get, cval, cval1, croom, St.taken, ↓reduceIte, Nat.reduceEqDiff, Nat.reduceLT, Nat.reduceLeDiff, List.filterMap_cons, List.filterMap_nil, Option.bind_some, Option.map_some, List.getElem?_cons_zero, List.getElem?_cons_succ, List.contains_cons, List.contains_nil, List.map_cons, List.map_nil, beq_self_eq_true, Nat.reduceBEq, dbin, dIntBin, okR, callG, pureB, leaf, leafN, List.all_cons, List.all_nil, List.nil_append, List.append_nil, List.length_nil, List.length_cons, dun, List.take_zero, List.drop_succ_cons, dcells, Nat.reduceAdd, stepBox, takes, ptrArgs, callArgs, given, oroom, vroom, Option.isSome_none, stepTake, List.drop_succ_cons, List.drop_nil, tyM, dpM, dpM1, fpM_0, fpM_1, zrM, zrmM, iaM, putR8, List.nil_append, AVB]
    | (refine drW_intro (by kernel_rfl) ?_)
    | (refine gw_intro (fun h => ?_) (fun h => ?_) <;> (try simp only [beq_true, beq_false, Bool.not_eq_eq_eq_not, Bool.not_true, Bool.not_false, Bool.not_not, decide_eq_true_eq, decide_eq_false_iff_not, ge_iff_le, gt_iff_lt] at h)))
              refine hr _ ?_
              repeat' (first
    | simp only [*, endQ, endR, endV, rvars, rvar, room1, ↓reduceIte, Nat.reduceEqDiff, List.map_cons, List.map_nil, pureB, leaf, leafN, List.take_nil, List.take_succ_cons, notAgg, AVB]
    | (refine drW_intro (by kernel_rfl) ?_)
    | (refine gw_intro (fun h => ?_) (fun h => ?_) <;> (try simp only [beq_true, beq_false, Bool.not_eq_eq_eq_not, Bool.not_true, Bool.not_false, Bool.not_not, decide_eq_true_eq, decide_eq_false_iff_not, ge_iff_le, gt_iff_lt] at h)))
            · have z4 : (((j + 1 : Nat) : Int) == 1) = false := by simp; omega
              have z3 : pathG (j + 1 + 1) (ms.drop (j + 1 + 1)) = R := by
                rw [hO', if_neg (by simp; omega)]
              have HO2 := Hd.mk z3.symm
              clear hm hl h hO hO' hr hx hi hAl hy hdn hbadD hbadR hendD hendR z3 j0
              obtain ⟨dn, ⟨p, k, sp, nm, la, ls, tx⟩⟩ := m
              simp only [] at hb h1 h2 hq hs1
              generalize la.map At.d = LA' at *
              generalize ls.map D.str = LS at *
              generalize y.at_.map At.d = YA at *
              generalize y.st.map D.str = YS at *
              repeat' (first
    | simp only [*, guardG, opG, inB, sval, stake, eats, eaters, get, cval, cval1, St.taken, ↓reduceIte, Nat.reduceEqDiff, Nat.reduceLT, Nat.reduceLeDiff, List.filterMap_cons, List.filterMap_nil, Option.bind_some, Option.map_some, Option.bind_none, List.getElem?_cons_zero, List.getElem?_cons_succ, List.contains_cons, List.contains_nil, List.map_cons, List.map_nil, beq_self_eq_true, Nat.reduceBEq, dbin, dIntBin, okR, callG, pureB, leaf, leafN, List.all_cons, List.all_nil, List.nil_append, List.cons_append, List.append_nil, List.length_nil, List.length_cons, dun, List.take_zero, List.drop_zero, List.drop_succ_cons, dcells, Nat.reduceAdd, stepBox, List.cons.injEq, List.getElem?_toArray, takes, ptrArgs, callArgs, given, oroom, Option.isSome_none, stepTake, ap22, bs22, List.drop_succ_cons, List.drop_nil, List.drop_zero, bt22, lenOk_small, tyM, dpM, dpM1, fpM_0, fpM_1, zrM, zrmM, iaM, putR8, putR1, List.cons_append, List.nil_append, AVB]
    | (refine drW_intro (by kernel_rfl) ?_)
    | (refine gw_intro (fun h => ?_) (fun h => ?_) <;> (try simp only [beq_true, beq_false, Bool.not_eq_eq_eq_not, Bool.not_true, Bool.not_false, Bool.not_not, decide_eq_true_eq, decide_eq_false_iff_not, ge_iff_le, gt_iff_lt] at h)))
              have hi2 : (j + 1) < ms.length := HI
              refine hn _ ⟨(j + 1) + 1, hi2, ?_, ?_, ?_, ?_, ?_, ?_, HO2⟩ ?_
              · simp only [*, put_slot, ↓reduceIte]
              · simp only [*, put_slot, dem_slot, setBox_slot, ↓reduceIte, Nat.reduceEqDiff]
              · simp only [*, put_slot, dem_slot, setBox_slot, ↓reduceIte, Nat.reduceEqDiff]
              · simp only [*, put_slot, dem_slot, setBox_slot, ↓reduceIte, Nat.reduceEqDiff]
              · rw [show docT ms ((j + 1) + 1) = Q from HQ]
                simp only [*, put_slot, ↓reduceIte, Nat.reduceEqDiff]
              · rw [show docT ms ((j + 1) + 1) = Q from HQ]
                simp only [*, put_room, ↓reduceIte, Nat.reduceEqDiff]
              · simp only [slotI, *, put_slot, ↓reduceIte, Int.toNat_natCast]
                omega
    · obtain rfl : i = ms.length := by omega
      have g9 : ¬ (ms.length : Int) < ms.length := by omega
      have hO' : R = pathG ms.length (ms.drop ms.length) := hO
      rw [pathG_end (Nat.le_refl _)] at hO'
      have hD := (show R = -1 → _ from hendD) hO'
      have hR2 := (show R = -1 → _ from hendR) hO'
      clear hn hr hl h hO hO' hbadD hbadR hendD hendR
      repeat' (first
    | simp only [*, guardG, opG, inB, sval, stake, eats, eaters, get, ↓reduceIte, Nat.reduceLT, List.filterMap_cons, List.filterMap_nil, Option.map_some, List.contains_cons, List.contains_nil, dbin, dIntBin, List.append_nil, AVB]
    | (refine drW_intro (by kernel_rfl) ?_)
    | (refine gw_intro (fun h => ?_) (fun h => ?_) <;> (try simp only [beq_true, beq_false, Bool.not_eq_eq_eq_not, Bool.not_true, Bool.not_false, Bool.not_not, decide_eq_true_eq, decide_eq_false_iff_not, ge_iff_le, gt_iff_lt] at h)))
      refine hx _ _ ?_
      repeat' (first
    | simp only [*, guardG, opG, inB, sval, stake, eats, eaters, get, cval, cval1, croom, St.taken, endQ, endR, endV, rvars, rvar, room1, ↓reduceIte, Nat.reduceEqDiff, Nat.reduceLT, List.filterMap_cons, List.filterMap_nil, List.contains_cons, List.contains_nil, List.map_cons, List.map_nil, beq_self_eq_true, Nat.reduceBEq, pureB, leaf, leafN, List.append_nil, List.take_nil, List.take_succ_cons, vroom, notAgg, AVB]
    | (refine drW_intro (by kernel_rfl) ?_)
    | (refine gw_intro (fun h => ?_) (fun h => ?_) <;> (try simp only [beq_true, beq_false, Bool.not_eq_eq_eq_not, Bool.not_true, Bool.not_false, Bool.not_not, decide_eq_true_eq, decide_eq_false_iff_not, ge_iff_le, gt_iff_lt] at h)))
end Go.Av
namespace Go.Av
open Go.Proofs
variable [Ek]
theorem chkG_app : ∀ {r a : List Nd} {roots : Int} {n : Nd}, chkG a r roots = (0, 0) → nodeF (a ++ r) n = true → rootB n = false → chkG a (r ++ [n]) roots = (0, 0)
  | [], a, roots, n, h, hn, hr => by
    rw [chkG] at h
    rw [List.append_nil] at hn
    have h1 : roots = 1 := by
      by_cases e : roots = 1
      · exact e
      · rw [if_neg e] at h; simp at h
    show chkG a [n] roots = (0, 0)
    rw [chkG, if_pos hn, hr, if_neg (by decide), chkG, if_pos h1]
  | x :: r, a, roots, n, h, hn, hr => by
    rw [chkG] at h
    split at h
    · rename_i hx
      rw [List.cons_append, chkG, if_pos hx]
      exact chkG_app h (by simpa using hn) hr
    · simp at h
theorem chkF_snoc {ns : List Nd} {n : Nd} (h : chkF ns = (0, 0)) (hn : nodeF ns n = true) (hr : rootB n = false) : chkF (ns ++ [n]) = (0, 0) := chkG_app h hn hr
theorem pathG_all : ∀ {r : List Mv} {i : Nat}, pathG i r = -1 → ∀ (j : Nat) (m : Mv), r[j]? = some m → badM (i + j) m = false
  | [], i, _, j, m, h => by simp at h
  | x :: r, i, h, j, m, hj => by
    rw [pathG] at h
    split at h
    · omega
    · rename_i hb
      cases j with
      | zero =>
        simp only [List.getElem?_cons_zero, Option.some.injEq] at hj
        subst hj
        simpa using hb
      | succ j =>
        rw [List.getElem?_cons_succ] at hj
        have := pathG_all h j m hj
        rw [show i + (j + 1) = i + 1 + j by omega]
        exact this
theorem path_all {ms : List Mv} (h : pathF ms = -1) {i : Nat} {m : Mv} (hm : ms[i]? = some m) : badM i m = false := by
  have := pathG_all h i m hm
  rwa [Nat.zero_add] at this
theorem bad_no {i : Nat} {m : Mv} (h : badM i m = false) : ownB m.nd = true ∧ (i = 0 → m.dn = false) ∧ (i = 1 → m.dn = true) := by
  unfold badM at h
  simp only [Bool.or_eq_false_iff, Bool.not_eq_false', Bool.and_eq_false_iff, beq_eq_false_iff_ne, Bool.not_eq_false] at h
  refine ⟨h.1, fun e => ?_, fun e => ?_⟩
  · rcases h.2.1 with h | h
    · exact absurd e h
    · exact h
  · rcases h.2.2 with h | h
    · exact absurd e h
    · exact h
theorem own_node {n : Nd} (h : ownB n = true) {ahead : List Nd} {p : Int} (hp : parOk ahead p = true) : n.k = 1 ∧ nodeF ahead (n.at' p) = true := by
  unfold ownB at h
  simp only [Bool.and_eq_true, beq_iff_eq] at h
  refine ⟨h.1, ?_⟩
  have h2 := h.2
  unfold nodeF at h2 ⊢
  simp only [Bool.and_eq_true] at h2 ⊢
  refine ⟨hp, ?_⟩
  have h3 := h2.2
  unfold bodyF at h3 ⊢
  have hk : (n.at' (-1)).k = 1 := h.1
  have hk' : (n.at' p).k = 1 := h.1
  rw [if_pos hk] at h3
  rw [if_pos hk']
  exact h3
def Tidy (ns : List Nd) : Prop := ∀ (j : Nat) (n : Nd), ns[j]? = some n → n.k = 1 ∧ (j = 0 → n.p = -1) ∧ (0 < j → 0 ≤ n.p ∧ n.p < (j : Int))
theorem Tidy.par {ns : List Nd} (h : Tidy ns) {p : Int} (h0 : 0 ≤ p) (h1 : p < ns.length) : parOk ns p = true := by
  unfold parOk
  obtain ⟨n, hn⟩ := some_at (show p.toNat < ns.length by omega)
  have hk : kindAt ns p = 1 := by
    unfold kindAt
    rw [hn]
    exact (h _ n hn).1
  rw [hk, decide_eq_false (by omega), decide_eq_false (by omega)]
  simp
theorem tidy_step {ms : List Mv} (h : pathF ms = -1) : ∀ i, i ≤ ms.length → Tidy (docT ms i) ∧ (0 < i → chkF (docT ms i) = (0, 0)) := by
  intro i
  induction i with
  | zero => exact fun _ => ⟨fun j n hj => by simp [docT_zero] at hj, fun h => absurd h (Nat.lt_irrefl 0)⟩
  | succ i ih =>
    intro hi
    obtain ⟨ht, hc⟩ := ih (by omega)
    obtain ⟨m, hm⟩ := some_at (show i < ms.length by omega)
    have hl := docT_len (ms := ms) (i := i) (by omega)
    obtain ⟨hown, hd0, hd1⟩ := bad_no (path_all h hm)
    rw [docT_succ hm]
    cases i with
    | zero =>
      have e : docT ms 0 = [] := rfl
      rw [e, parD_zero, List.nil_append]
      have hk : m.nd.k = 1 := by
        unfold ownB at hown
        simp only [Bool.and_eq_true, beq_iff_eq] at hown
        exact hown.1
      have hf : nodeF [] (m.nd.at' (-1)) = true := by
        unfold ownB at hown
        simp only [Bool.and_eq_true] at hown
        exact hown.2
      refine ⟨fun j n hj => ?_, fun _ => by rw [chk_one hk, if_pos hf]⟩
      cases j with
      | zero =>
        simp only [List.getElem?_cons_zero, Option.some.injEq] at hj
        subst hj
        exact ⟨hk, fun _ => rfl, fun h => absurd h (Nat.lt_irrefl 0)⟩
      | succ j => simp at hj
    | succ j =>
      have hp : 0 ≤ parD (docT ms (j + 1)) m ∧ parD (docT ms (j + 1)) m < ((j + 1 : Nat) : Int) := by
        cases hdn : m.dn with
        | true => rw [parD_dn hl hdn]; omega
        | false =>
          obtain ⟨y, hy⟩ := some_at (show j < (docT ms (j + 1)).length by omega)
          rw [parD_no hl hdn hy]
          have hj0 : 0 < j := by
            rcases Nat.eq_zero_or_pos j with e | e
            · subst e
              rw [hd1 rfl] at hdn
              cases hdn
            · exact e
          have := (ht j y hy).2.2 hj0
          omega
      obtain ⟨hk, hn⟩ := own_node hown (ht.par hp.1 (by rw [hl]; exact hp.2))
      refine ⟨fun t n ht' => ?_, fun _ => ?_⟩
      · by_cases hlt : t < j + 1
        · rw [List.getElem?_append_left (by omega)] at ht'
          exact ht t n ht'
        · rw [List.getElem?_append_right (by omega), hl] at ht'
          have e : t - (j + 1) = 0 := by
            have := (List.getElem?_eq_some_iff.1 ht').1
            simp at this
            omega
          rw [e] at ht'
          simp only [List.getElem?_cons_zero, Option.some.injEq] at ht'
          subst ht'
          have e2 : t = j + 1 := by omega
          subst e2
          exact ⟨hk, fun h => (Nat.succ_ne_zero _ h).elim, fun _ => hp⟩
      · refine chkF_snoc (hc (Nat.succ_pos _)) hn ?_
        unfold rootB
        have hge : ¬ (m.nd.at' (parD (docT ms (j + 1)) m)).p < 0 := by
          show ¬ parD (docT ms (j + 1)) m < 0
          omega
        rw [decide_eq_false hge, Bool.and_false]
theorem doc_right {ms : List Mv} (h : pathF ms = -1) (h0 : ms ≠ []) : chkF (docT ms ms.length) = (0, 0) :=
  (tidy_step h ms.length (Nat.le_refl _)).2 (List.length_pos_iff.2 h0)
theorem docT_mem {ms : List Mv} (hS : ∀ m ∈ ms, SmallN m.nd) : ∀ i, i ≤ ms.length → ∀ n ∈ docT ms i, SmallN n := by
  intro i
  induction i with
  | zero => intro _ n hn; simp [docT_zero] at hn
  | succ i ih =>
    intro hi n hn
    obtain ⟨m, hm⟩ := some_at (show i < ms.length by omega)
    rw [docT_succ hm] at hn
    rcases List.mem_append.1 hn with hn | hn
    · exact ih (by omega) n hn
    · simp only [List.mem_singleton] at hn
      subst hn
      exact hS m (List.mem_of_getElem? hm)
theorem doc_small {ms : List Mv} (hl : ms.length ≤ 10000) (hS : ∀ m ∈ ms, SmallN m.nd) : SmallD (docT ms ms.length) :=
  ⟨by rw [docT_len (Nat.le_refl _)]; exact hl, docT_mem hS _ (Nat.le_refl _)⟩
theorem docT_at {ms : List Mv} {i : Nat} : ∀ {k : Nat}, i < k → k ≤ ms.length → (docT ms k)[i]? = (docT ms (i + 1))[i]? := by
  intro k
  induction k with
  | zero => intro h; omega
  | succ k ih =>
    intro h hk
    by_cases e : i = k
    · subst e; rfl
    · obtain ⟨m, hm⟩ := some_at (show k < ms.length by omega)
      rw [docT_succ hm, List.getElem?_append_left (by rw [docT_len (by omega)]; omega)]
      exact ih (by omega) (by omega)
def dnAt (ms : List Mv) (i : Nat) : Bool := match ms[i]? with | some m => m.dn | none => false
def rowT (ms : List Mv) : Nat → List Int
  | 0 => [0]
  | i + 1 => (if dnAt ms (i + 1) = true then [] else rowT ms i) ++ [((i + 1 : Nat) : Int)]
theorem rowT_len {ms : List Mv} : ∀ i, (rowT ms i).length ≤ i + 1
  | 0 => by simp [rowT]
  | i + 1 => by
    have := rowT_len (ms := ms) i
    rw [rowT]
    split <;> simp <;> omega
theorem rowT_head {ms : List Mv} : ∀ i, ∃ z r, rowT ms i = z :: r
  | 0 => ⟨0, [], rfl⟩
  | i + 1 => by
    obtain ⟨z, r, h⟩ := rowT_head (ms := ms) i
    rw [rowT]
    split
    · exact ⟨_, [], rfl⟩
    · rw [h]
      exact ⟨z, _, rfl⟩
theorem rowL_none {ns : List Nd} {key : Int} : ∀ {m : Nat}, (∀ j, j < m → pAt ns j ≠ key) → rowL ns key m = [] := by
  intro m
  induction m with
  | zero => intro _; rfl
  | succ m ih =>
    intro h
    rw [rowL, if_neg (fun e => h m (Nat.lt_succ_self m) e.2)]
    exact ih fun j hj => h j (by omega)
theorem row_is {ms : List Mv} (h : pathF ms = -1) : ∀ i, i < ms.length → (∀ z r, rowT ms i = z :: r → pAt (docT ms ms.length) i = z - 1) ∧ rowL (docT ms ms.length) (pAt (docT ms ms.length) i) (i + 1) = rowT ms i ∧ kAt (docT ms ms.length) i = 1 := by
  have hT := (tidy_step h ms.length (Nat.le_refl _)).1
  have hL : (docT ms ms.length).length = ms.length := docT_len (Nat.le_refl _)
  have hp : ∀ j n, (docT ms ms.length)[j]? = some n → pAt (docT ms ms.length) j = n.p ∧ kAt (docT ms ms.length) j = n.k := fun j n hj => by
    unfold pAt kAt
    rw [hj]
    exact ⟨rfl, rfl⟩
  intro i
  induction i with
  | zero =>
    intro hi
    obtain ⟨n, hn⟩ := some_at (show 0 < (docT ms ms.length).length by omega)
    obtain ⟨h1, h2, _⟩ := hT 0 n hn
    obtain ⟨e1, e2⟩ := hp 0 n hn
    refine ⟨fun z r hz => ?_, ?_, by rw [e2, h1]⟩
    · simp only [rowT, List.cons.injEq] at hz
      rw [e1, h2 rfl, ← hz.1]
      rfl
    · rw [rowL, if_pos ⟨by rw [e2, h1], rfl⟩]
      rfl
  | succ i ih =>
    intro hi
    obtain ⟨hh, hr, hk⟩ := ih (by omega)
    obtain ⟨n, hn⟩ := some_at (show i + 1 < (docT ms ms.length).length by omega)
    obtain ⟨h1, _, h3⟩ := hT (i + 1) n hn
    obtain ⟨e1, e2⟩ := hp (i + 1) n hn
    obtain ⟨m, hm⟩ := some_at hi
    have hnn := hn
    rw [docT_at (Nat.lt_of_lt_of_le (Nat.lt_succ_self _) hi) (Nat.le_refl _), docT_succ hm] at hnn
    have hli := docT_len (ms := ms) (i := i + 1) (by omega)
    rw [List.getElem?_append_right (by omega), hli, Nat.sub_self] at hnn
    simp only [List.getElem?_cons_zero, Option.some.injEq] at hnn
    have hpn : n.p = parD (docT ms (i + 1)) m := by rw [← hnn]; rfl
    have hstep : rowL (docT ms ms.length) (pAt (docT ms ms.length) (i + 1)) (i + 1 + 1) = rowL (docT ms ms.length) (pAt (docT ms ms.length) (i + 1)) (i + 1) ++ [((i + 1 : Nat) : Int)] := rowL_succ (by rw [e2, h1])
    have hrow : rowT ms (i + 1) = (if m.dn = true then [] else rowT ms i) ++ [((i + 1 : Nat) : Int)] := by
      rw [rowT]
      unfold dnAt
      rw [hm]
    refine ⟨?_, ?_, by rw [e2, h1]⟩
    · intro z r hz
      rw [hrow] at hz
      cases hdn : m.dn with
      | true =>
        rw [hdn, if_pos rfl] at hz
        simp only [List.nil_append, List.cons.injEq] at hz
        rw [e1, hpn, parD_dn hli hdn, ← hz.1]
        omega
      | false =>
        obtain ⟨z', r', hz'⟩ := rowT_head (ms := ms) i
        rw [hdn, if_neg (by decide), hz', List.cons_append, List.cons.injEq] at hz
        obtain ⟨y, hy⟩ := some_at (show i < (docT ms (i + 1)).length by omega)
        rw [e1, hpn, parD_no hli hdn hy, ← hz.1, ← hh z' r' hz']
        have : (docT ms ms.length)[i]? = some y := by rw [docT_at (by omega) (Nat.le_refl _)]; exact hy
        exact (hp i y this).1.symm
    · rw [hstep, hrow]
      congr 1
      cases hdn : m.dn with
      | true =>
        rw [if_pos rfl]
        refine rowL_none fun j hj => ?_
        obtain ⟨x, hx⟩ := some_at (show j < (docT ms ms.length).length by omega)
        rw [(hp j x hx).1, e1, hpn, parD_dn hli hdn]
        obtain ⟨_, q2, q3⟩ := hT j x hx
        rcases Nat.eq_zero_or_pos j with e | e
        · rw [q2 e]; omega
        · have := q3 e; omega
      | false =>
        rw [if_neg (by decide), ← hr]
        obtain ⟨y, hy⟩ := some_at (show i < (docT ms (i + 1)).length by omega)
        have h5 : (docT ms ms.length)[i]? = some y := by rw [docT_at (by omega) (Nat.le_refl _)]; exact hy
        rw [e1, hpn, parD_no hli hdn hy, (hp i y h5).1]
theorem rowI_is {ms : List Mv} (h : pathF ms = -1) {i : Nat} (hi : i < ms.length) : rowI (docT ms ms.length) i = rowT ms i := by
  obtain ⟨_, h2, h3⟩ := row_is h i hi
  unfold rowI
  rw [Int.toNat_natCast, if_pos (by unfold elB; rw [Int.toNat_natCast, h3, docT_len (Nat.le_refl _)]; simp; omega)]
  exact h2
theorem nds_at {ms : List Mv} {i : Nat} {m : Mv} (h : ms[i]? = some m) : (ms.map Mv.nd).take (i + 1) = (ms.map Mv.nd).take i ++ [m.nd] := by
  rw [List.take_add_one, List.getElem?_map, h]
  rfl
theorem nds_small {ms : List Mv} (h : greatF (ms.map Mv.nd) 60 = false) : ms.length ≤ 60 ∧ ∀ m ∈ ms, SmallN m.nd := by
  have h1 := great_smallD h (by decide)
  refine ⟨?_, fun m hm => h1.2 m.nd (List.mem_map.2 ⟨m, hm, rfl⟩)⟩
  unfold greatF at h
  simp only [Bool.or_eq_false_iff, decide_eq_false_iff_not, List.length_map] at h
  omega
theorem pathG_ge : ∀ {r : List Mv} {i : Nat}, pathG i r = -1 ∨ (i : Int) ≤ pathG i r
  | [], i => .inl rfl
  | m :: r, i => by
    rw [pathG]
    split
    · exact .inr (Int.le_refl _)
    · rcases pathG_ge (r := r) (i := i + 1) with h | h
      · exact .inl h
      · exact .inr (by omega)
end Go.Av
namespace Go.Av
open Go.Proofs
variable [Ek] {chk : List D → Bool}
set_option maxHeartbeats 32000000 in
theorem law5_L (hck : chk [] = true) (ms : List Mv) (hl : ms.length * 120 ≤ 140737488355328) : callL Tryd.prog (ext11b chk) 5 [.list (ms.map Mv.d)] [] = some (.bool true, [.no], []) := by
  have lN := lenMv ms
  have h6 := sp11 (chk := chk)
  have HL := Hd.mk hl
  clear hl
  refine callK (m := 91) (res := [2]) (rs := [.tmp 2]) rfl Tryd.func5 rfl rfl rfl rfl rfl ?_
  repeat' (first
    | simp only [*, guardG, opG, inB, sval, stake, eats, eaters, get, cval, cval1, croom, St.taken, ↓reduceIte, Nat.reduceLT, reduceCtorEq, List.filterMap_cons, List.filterMap_nil, Option.bind_some, Option.map_some, Option.bind_none, List.getD_cons_zero, List.contains_cons, List.contains_nil, List.map_nil, Nat.reduceBEq, okR, callG, List.all_nil, List.append_nil, List.length_nil, dun, ptrArgs, callArgs, vroom, Option.isSome_none, bs22e, bt22, lenMs, AVB]
    | (refine drW_intro (by kernel_rfl) ?_)
    | (refine gw_intro (fun h => ?_) (fun h => ?_) <;> (try simp only [beq_true, beq_false, Bool.not_eq_eq_eq_not, Bool.not_true, Bool.not_false, Bool.not_not, decide_eq_true_eq, decide_eq_false_iff_not, ge_iff_le, gt_iff_lt] at h)))
  refine loopH (fun st => ∃ i : Nat, i ≤ ms.length ∧ st.slot 16 = .int .i64 i ∧ st.slot 14 = .list (ms.map Mv.d) ∧ st.slot 15 = .int .i64 ms.length ∧ st.slot 0 = .list (ms.map Mv.d) ∧ st.slot 3 = .list (((ms.map Mv.nd).take i).map Nd.d) ∧ st.room 3 = [roomN ((ms.map Mv.nd).take i)]) (fun st => ms.length - slotI st 16) ?_ ?_
  · refine ⟨0, Nat.zero_le _, ?_, ?_, ?_, ?_, ?_, ?_⟩
    all_goals simp only [*, put_slot, put_room, dem_slot, entry_slot, ↓reduceIte, Nat.reduceEqDiff, reduceCtorEq, List.getD_cons_zero, List.map_nil, List.take_zero, and_true, List.cons.injEq]
    all_goals rfl
  · rintro st K ⟨i, hi, g16, g14, g15, g0, g3, r3⟩ hn hx hr
    have hl : ms.length * 120 ≤ 140737488355328 := HL
    by_cases h : i < ms.length
    · have g9 : (i : Int) < ms.length := by omega
      have hw := wrapS i (by omega)
      obtain ⟨m, hm⟩ := some_at h
      have hb := getD_map (f := Mv.d) hm
      rw [mvat] at hb
      have hre := nds_at hm
      have hAl : ((ms.map Mv.nd).take i).length = i := by rw [List.length_take, List.length_map]; omega
      obtain ⟨A, hA⟩ : ∃ A, A = (ms.map Mv.nd).take i := ⟨_, rfl⟩
      rw [← hA] at hre hAl g3 r3
      have hro := roomN_ok A
      have hra := roomN_app A m.nd
      have hsz := szN A
      have hk1 : lenOk ((A.map Nd.d).length + 1) 112 = true := by
        rw [List.length_map, hAl]
        unfold lenOk
        simp only [Bool.or_eq_true, Bool.and_eq_true, decide_eq_true_eq]
        right
        omega
      have hap := apN A m.nd
      rw [ndat] at hap
      obtain ⟨Q, hQ⟩ : ∃ Q, (ms.map Mv.nd).take (i + 1) = Q := ⟨_, rfl⟩
      have HQ := Hd.mk hQ
      have hq : Q.map Nd.d = A.map Nd.d ++ [.agg [.int .i64 m.nd.p, .int .i64 m.nd.k, .str m.nd.sp, .str m.nd.nm, .list (m.nd.at_.map At.d), .list (m.nd.st.map .str), .str m.nd.tx]] := by rw [← hQ, hre]; exact hap
      have hqr : roomN Q = .own 28 := by rw [← hQ, hre]; exact hra
      have hs1 : szOk 7 [D.agg [.int .i64 m.nd.p, .int .i64 m.nd.k, .str m.nd.sp, .str m.nd.nm, .list (m.nd.at_.map At.d), .list (m.nd.st.map .str), .str m.nd.tx]] = true := rfl
      have HI := Hd.mk h
      clear hQ hre hap hra hA hAl hm hl h hr hx hi h6
      obtain ⟨dn, ⟨p, k, sp, nm, la, ls, tx⟩⟩ := m
      simp only [] at hb hq hs1
      generalize la.map At.d = LA at *
      generalize ls.map D.str = LS at *
      repeat' (first
    | simp only [*, guardG, opG, inB, sval, stake, eats, eaters, get, cval, cval1, St.taken, ↓reduceIte, Nat.reduceEqDiff, Nat.reduceLT, Nat.reduceLeDiff, List.filterMap_cons, List.filterMap_nil, Option.map_some, Option.bind_none, List.getElem?_cons_zero, List.contains_cons, List.contains_nil, List.map_cons, List.map_nil, beq_self_eq_true, beq_iff_eq, Nat.reduceBEq, dbin, dIntBin, pureB, leaf, leafN, List.all_cons, List.all_nil, List.nil_append, List.append_nil, List.length_nil, List.length_cons, List.take_zero, List.drop_succ_cons, dcells, Nat.reduceAdd, stepBox, List.cons.injEq, List.getElem?_toArray, takes, ptrArgs, callArgs, given, oroom, Option.isSome_none, ap22, bs22, Option.some.injEq, List.drop_succ_cons, List.drop_nil, bt22, tyM, dpM, dpM1, fpM_1, zrM, zrmM, iaM, putR8, List.nil_append, AVB]
    | (refine drW_intro (by kernel_rfl) ?_)
    | (refine gw_intro (fun h => ?_) (fun h => ?_) <;> (try simp only [beq_true, beq_false, Bool.not_eq_eq_eq_not, Bool.not_true, Bool.not_false, Bool.not_not, decide_eq_true_eq, decide_eq_false_iff_not, ge_iff_le, gt_iff_lt] at h)))
      have hi2 : i < ms.length := HI
      refine hn _ ⟨i + 1, hi2, ?_, ?_, ?_, ?_, ?_, ?_⟩ ?_
      · simp only [*, put_slot, ↓reduceIte]
      · simp only [*, put_slot, dem_slot, setBox_slot, ↓reduceIte, Nat.reduceEqDiff]
      · simp only [*, put_slot, dem_slot, setBox_slot, ↓reduceIte, Nat.reduceEqDiff]
      · simp only [*, put_slot, dem_slot, setBox_slot, ↓reduceIte, reduceCtorEq]
      · rw [show (ms.map Mv.nd).take (i + 1) = Q from HQ]
        simp only [*, put_slot, ↓reduceIte, Nat.reduceEqDiff]
      · rw [show (ms.map Mv.nd).take (i + 1) = Q from HQ]
        simp only [*, put_room, ↓reduceIte, Nat.reduceEqDiff]
      · simp only [slotI, *, put_slot, ↓reduceIte, Int.toNat_natCast]
        omega
    · obtain rfl : i = ms.length := by omega
      have g9 : ¬ (ms.length : Int) < ms.length := by omega
      rw [show (ms.map Mv.nd).take ms.length = ms.map Mv.nd by rw [← List.length_map Mv.nd, List.take_length]] at g3 r3
      have h7 : callL Tryd.prog (ext11b chk) 7 [.list ((ms.map Mv.nd).map Nd.d), .int .i64 60] [] = some (.bool (greatF (ms.map Mv.nd) 60), [.no], []) := great_L (chk := chk) (ms.map Mv.nd) 60 (by decide)
      obtain ⟨ND, hND⟩ : ∃ ND, ND = (ms.map Mv.nd).map Nd.d := ⟨_, rfl⟩
      rw [← hND] at g3 h7
      clear hND hn hr h h6 hl
      cases hgr : greatF (ms.map Mv.nd) 60 with
      | true =>
        rw [hgr] at h7
        clear hgr
        repeat' (first
    | simp only [*, guardG, opG, inB, sval, stake, eats, eaters, get, ↓reduceIte, Nat.reduceLT, List.filterMap_cons, List.filterMap_nil, Option.map_some, List.contains_cons, List.contains_nil, dbin, dIntBin, List.append_nil, AVB]
    | (refine drW_intro (by kernel_rfl) ?_)
    | (refine gw_intro (fun h => ?_) (fun h => ?_) <;> (try simp only [beq_true, beq_false, Bool.not_eq_eq_eq_not, Bool.not_true, Bool.not_false, Bool.not_not, decide_eq_true_eq, decide_eq_false_iff_not, ge_iff_le, gt_iff_lt] at h)))
        refine hx _ _ ?_
        repeat' (first
    | simp only [*, guardG, opG, inB, sval, stake, eats, eaters, get, cval, cval1, croom, St.taken, endQ, endR, endV, rvars, rvar, room1, ↓reduceIte, Nat.reduceEqDiff, Nat.reduceLT, List.filterMap_cons, List.filterMap_nil, Option.bind_some, List.contains_cons, List.contains_nil, List.map_cons, List.map_nil, beq_self_eq_true, beq_iff_eq, okR, callG, pureB, leaf, leafN, List.all_cons, List.all_nil, List.nil_append, List.append_nil, List.take_nil, ptrArgs, callArgs, vroom, Option.isSome_none, notAgg, Option.some.injEq, List.nil_append, AVB]
    | (refine drW_intro (by kernel_rfl) ?_)
    | (refine gw_intro (fun h => ?_) (fun h => ?_) <;> (try simp only [beq_true, beq_false, Bool.not_eq_eq_eq_not, Bool.not_true, Bool.not_false, Bool.not_not, decide_eq_true_eq, decide_eq_false_iff_not, ge_iff_le, gt_iff_lt] at h)))
      | false =>
        rw [hgr] at h7
        obtain ⟨hl60, hSm⟩ := nds_small hgr
        by_cases hm0 : ms = []
        · subst hm0
          have h9 := doc_nil (chk := chk)
          have hk := kind_L (chk := chk) hck 15 0
          have ha := at_L (chk := chk) hck 15 0
          have z0 : ((0 : Nat) : Int) = 0 := rfl
          have ln : (([] : List Mv).length : Int) = 0 := rfl
          have ln2 : (([] : List D).length : Int) = 0 := rfl
          have mn : ([] : List Mv).map Mv.d = [] := rfl
          unfold faultD at h9
          clear hgr lN hl60 hSm
          repeat' (first
    | simp only [*, guardG, opG, inB, sval, stake, eats, eaters, get, ↓reduceIte, Nat.reduceLT, List.filterMap_cons, List.filterMap_nil, Option.map_some, List.contains_cons, List.contains_nil, dbin, dIntBin, List.append_nil, List.length_nil, Int.reduceLT, AVB]
    | (refine drW_intro (by kernel_rfl) ?_)
    | (refine gw_intro (fun h => ?_) (fun h => ?_) <;> (try simp only [beq_true, beq_false, Bool.not_eq_eq_eq_not, Bool.not_true, Bool.not_false, Bool.not_not, decide_eq_true_eq, decide_eq_false_iff_not, ge_iff_le, gt_iff_lt] at h)))
          refine hx _ _ ?_
          repeat' (first
    | simp only [*, guardG, opG, inB, sval, stake, eats, eaters, get, cval, cval1, croom, St.taken, endQ, endR, endV, rvars, rvar, room1, ↓reduceIte, Nat.reduceEqDiff, Nat.reduceLT, reduceCtorEq, List.filterMap_cons, List.filterMap_nil, Option.bind_some, Option.map_some, Option.bind_none, List.getElem?_cons_zero, List.getElem?_cons_succ, List.contains_cons, List.contains_nil, List.map_cons, List.map_nil, beq_self_eq_true, beq_iff_eq, Nat.reduceBEq, dbin, dIntBin, okR, callG, pureB, leaf, leafN, List.all_cons, List.all_nil, List.nil_append, List.append_nil, List.take_nil, List.length_nil, dStrBin, ptrArgs, callArgs, vroom, Option.isSome_none, stepPtr, notAgg, dNilEq, isLit, Option.some.injEq, lenMs, ptrIn_ifx, List.nil_append, AVB]
    | (refine drW_intro (by kernel_rfl) ?_)
    | (refine gw_intro (fun h => ?_) (fun h => ?_) <;> (try simp only [beq_true, beq_false, Bool.not_eq_eq_eq_not, Bool.not_true, Bool.not_false, Bool.not_not, decide_eq_true_eq, decide_eq_false_iff_not, ge_iff_le, gt_iff_lt] at h)))
        · have h9 := doc_L (chk := chk) ms hm0 (by omega) hSm
          have h8 := path_L (chk := chk) ms (by omega) hSm
          have lz : ((ms.length : Int) == 0) = false := by
            have : ms.length ≠ 0 := fun e => hm0 (List.length_eq_zero_iff.1 e)
            simp
            omega
          unfold docD docR at h9
          by_cases hp : pathF ms = -1
          · rw [if_pos hp, if_pos hp] at h9
            rw [hp] at h8
            have hsd := doc_small (ms := ms) (by omega) hSm
            have hck := rcheck_L (chk := chk) (docT ms ms.length) hsd.big
            rw [doc_right hp hm0] at hck
            have hrd := rdoc_L (chk := chk) ms (by omega)
            have hsm := rsame_L (chk := chk) (docT ms ms.length) (docT ms ms.length) hsd.small hsd.small
            rw [decide_eq_true rfl] at hsm
            have hs1 := size_L (chk := chk) (docT ms ms.length) hsd
            have hs2 := rsize_L (chk := chk) (docT ms ms.length) hsd
            have bz : (sizeF (docT ms ms.length) == sizeF (docT ms ms.length)) = true := by simp
            generalize sizeF (docT ms ms.length) = Z at *
            generalize roomN (docT ms ms.length) = RN at *
            generalize (docT ms ms.length).map Nd.d = DT at *
            clear hsd hp hm0 hSm hl60 hgr
            repeat' (first
    | simp only [*, guardG, opG, inB, sval, stake, eats, eaters, get, ↓reduceIte, Nat.reduceLT, List.filterMap_cons, List.filterMap_nil, Option.map_some, List.contains_cons, List.contains_nil, dbin, dIntBin, List.append_nil, AVB]
    | (refine drW_intro (by kernel_rfl) ?_)
    | (refine gw_intro (fun h => ?_) (fun h => ?_) <;> (try simp only [beq_true, beq_false, Bool.not_eq_eq_eq_not, Bool.not_true, Bool.not_false, Bool.not_not, decide_eq_true_eq, decide_eq_false_iff_not, ge_iff_le, gt_iff_lt] at h)))
            refine hx _ _ ?_
            repeat' (first
    | simp only [*, guardG, opG, inB, sval, stake, eats, eaters, get, cval, cval1, croom, St.taken, endQ, endR, endV, rvars, rvar, room1, ↓reduceIte, Nat.reduceEqDiff, Nat.reduceLT, reduceCtorEq, List.filterMap_cons, List.filterMap_nil, Option.bind_some, Option.map_some, Option.bind_none, List.getElem?_cons_zero, List.getElem?_cons_succ, List.contains_cons, List.contains_nil, List.map_cons, List.map_nil, beq_self_eq_true, beq_iff_eq, Nat.reduceBEq, dbin, dIntBin, okR, callG, pureB, leaf, leafN, List.all_cons, List.all_nil, List.nil_append, List.append_nil, List.take_nil, ge_iff_le, dStrBin, Int.reduceLE, ptrArgs, callArgs, vroom, Option.isSome_none, stepPtr, notAgg, shA34, dNilEq, isLit, Option.some.injEq, lenMs, List.nil_append, AVB]
    | (refine drW_intro (by kernel_rfl) ?_)
    | (refine gw_intro (fun h => ?_) (fun h => ?_) <;> (try simp only [beq_true, beq_false, Bool.not_eq_eq_eq_not, Bool.not_true, Bool.not_false, Bool.not_not, decide_eq_true_eq, decide_eq_false_iff_not, ge_iff_le, gt_iff_lt] at h)))
          · rw [if_neg hp, if_neg hp] at h9
            have hk := kind_L (chk := chk) hck 10 (pathF ms)
            have ha := at_L (chk := chk) hck 10 (pathF ms)
            have hge : 0 ≤ pathF ms := by
              rcases pathG_ge (r := ms) (i := 0) with h | h
              · exact absurd h hp
              · exact h
            have z0 : (((0 : Nat) : Int) == 0) = true := rfl
            have bz : (pathF ms == pathF ms) = true := by simp
            unfold faultD at h9
            generalize pathF ms = Z at *
            clear hp hm0 hSm hl60 hgr
            repeat' (first
    | simp only [*, guardG, opG, inB, sval, stake, eats, eaters, get, ↓reduceIte, Nat.reduceLT, List.filterMap_cons, List.filterMap_nil, Option.map_some, List.contains_cons, List.contains_nil, dbin, dIntBin, List.append_nil, AVB]
    | (refine drW_intro (by kernel_rfl) ?_)
    | (refine gw_intro (fun h => ?_) (fun h => ?_) <;> (try simp only [beq_true, beq_false, Bool.not_eq_eq_eq_not, Bool.not_true, Bool.not_false, Bool.not_not, decide_eq_true_eq, decide_eq_false_iff_not, ge_iff_le, gt_iff_lt] at h)))
            refine hx _ _ ?_
            repeat' (first
    | simp only [*, guardG, opG, inB, sval, stake, eats, eaters, get, cval, cval1, croom, St.taken, endQ, endR, endV, rvars, rvar, room1, ↓reduceIte, Nat.reduceEqDiff, Nat.reduceLT, reduceCtorEq, List.filterMap_cons, List.filterMap_nil, Option.bind_some, Option.map_some, Option.bind_none, List.getElem?_cons_zero, List.getElem?_cons_succ, List.contains_cons, List.contains_nil, List.map_cons, List.map_nil, beq_self_eq_true, beq_iff_eq, Nat.reduceBEq, dbin, dIntBin, okR, callG, pureB, leaf, leafN, List.all_cons, List.all_nil, List.nil_append, List.append_nil, List.take_nil, List.length_nil, ge_iff_le, dStrBin, ptrArgs, callArgs, vroom, Option.isSome_none, stepPtr, notAgg, dNilEq, isLit, Option.some.injEq, lenMs, ptrIn_ifx, List.nil_append, AVB]
    | (refine drW_intro (by kernel_rfl) ?_)
    | (refine gw_intro (fun h => ?_) (fun h => ?_) <;> (try simp only [beq_true, beq_false, Bool.not_eq_eq_eq_not, Bool.not_true, Bool.not_false, Bool.not_not, decide_eq_true_eq, decide_eq_false_iff_not, ge_iff_le, gt_iff_lt] at h)))
end Go.Av
