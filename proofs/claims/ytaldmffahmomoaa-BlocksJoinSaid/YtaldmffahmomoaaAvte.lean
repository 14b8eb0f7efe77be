/- The evaluator, in one text: over any program; no conditions but those that each law names. -/
import Derived.Test.YtaldmffahmomoaaAvtd
set_option linter.unusedSimpArgs false
set_option linter.unusedVariables false
set_option linter.unusedSectionVars false
/- Chapter 19: a reader of a part of tokens. -/
set_option linter.unusedSimpArgs false
set_option linter.unusedVariables false
set_option linter.unusedSectionVars false
set_option maxRecDepth 100000
namespace Go.Av
open Go.Proofs Go.Proofs.Ytaldmffahmomoaa Go.RowKit
theorem TkLen (ts : List Tk) : ((ts.map Tk.d).length : Int) = ts.length := by simp
theorem wrapS (i : Nat) (h : i ≤ 1000000000) : IntKind.i64.wrap ((i : Int) + 1) = ((i + 1 : Nat) : Int) := by rw [wrap64 _ (by omega) (by omega)]; omega
theorem lst1 (f : Nat → Bx) : (List.range 1).map f = [f 0] := rfl
theorem pid0 : pid 0 = 1000000 := rfl
theorem at0 {α : Type} (x : α) (l : List α) : (x :: l)[0]? = some x := rfl
theorem bs44_2 (x y : Int) : dbuildSlice Try.prog 44 2 [(0, .int .i64 x), (1, .int .i64 y)] = some (.list [.int .i64 x, .int .i64 y]) := by kernel_rfl
theorem dmx (k k' : IntKind) (a b : Int) : dminmax true [.int k a, .int k' b] = some (.int k (max a b)) := by
  simp only [dminmax, if_true]
  congr 2
  split <;> omega
theorem dmn (k k' : IntKind) (a b : Int) : dminmax false [.int k a, .int k' b] = some (.int k (min a b)) := by
  simp only [dminmax, Bool.false_eq_true, if_false]
  congr 2
  split <;> omega
set_option maxHeartbeats 8000000 in
theorem part_L (ts : List Tk) (hl : ts.length ≤ 1000000) (fr to : Int) : callL Try.prog ext9 26 [Tks ts, .int .i64 fr, .int .i64 to] [] =
    some (.ptr nid 0 0, [], [⟨0, [Tks ts, .int .i64 ((cutF ts fr to).1 : Nat), .int .i64 ((cutF ts fr to).2 : Nat)]⟩]) := by
  have lN := TkLen ts
  have hge := cutF_ge ts fr to
  have hmx : max fr 0 = ((cutF ts fr to).1 : Nat) := by show _ = ((fr.toNat : Nat) : Int); omega
  have hK : endF (kd ts) (min to ts.length).toNat (cutF ts fr to).1 = (cutF ts fr to).2 := rfl
  have hE : min to ts.length ≤ ts.length := by omega
  unfold Tks
  generalize (cutF ts fr to).1 = a at *
  generalize (cutF ts fr to).2 = b at *
  generalize hEq : min to (ts.length : Int) = E at *
  refine callK (m := 34) (res := [6]) (rs := [.tmp 6]) rfl Try.func26 rfl rfl rfl rfl rfl ?_
  have hK' := Hd.mk hK
  clear hK
  repeat' (first
    | simp only [*, go_seq, go_block, go_loop, go_region, go_ops_nil, go_ops, okG_some, guardG, opG, isPtr, inB, sval, stake, eats, eaters, get, cval, cval1, croom, St.taken, put_slot, put_room, dem_none, dem_slot, dem_room, entry_slot, ↓reduceIte, Nat.reduceEqDiff, Nat.reduceLT, reduceCtorEq, decide_true, List.filterMap_cons, List.filterMap_nil, Option.map_some, List.getD_cons_zero, List.getD_cons_succ, List.contains_cons, List.contains_nil, List.map_cons, List.map_nil, Bool.or_false, Nat.reduceBEq, Bool.false_eq_true, row9, frz9, frzOf_def, frz_nil, List.length_nil, Bool.and_false, len24, dmx, dmn]
    | (refine drW_intro (by kernel_rfl) ?_)
    | (refine gw_intro (fun h => ?_) (fun h => ?_) <;> (try simp only [beq_true, beq_false, Bool.not_eq_eq_eq_not, Bool.not_true, Bool.not_false, Bool.not_not, decide_eq_true_eq, decide_eq_false_iff_not, ge_iff_le, gt_iff_lt] at h)))
  refine loopH (fun st => ∃ i : Nat, st.slot 0 = .list (ts.map Tk.d) ∧ st.slot 1 = .int .i64 a ∧ Hd (a ≤ i) ∧ ((st.slot 7 = .int .i64 i ∧ st.slot 2 = .int .i64 E ∧ Hd (endF (kd ts) E.toNat i = b) ∧ (i = a ∨ (i : Int) ≤ E)) ∨
    (st.slot 7 = .int .i64 (i + 1 : Nat) ∧ st.slot 2 = .int .i64 i ∧ i = b))) (fun st => ts.length - slotI st 7) ?_ ?_
  · refine ⟨a, ?_, ?_, Hd.mk (Nat.le_refl _), .inl ⟨?_, ?_, hK', .inl rfl⟩⟩
    all_goals simp only [*, put_slot, dem_slot, entry_slot, ↓reduceIte, Nat.reduceEqDiff, reduceCtorEq, List.getD_cons_zero]
  · rintro st K ⟨i, h0, h1, hai, hinv⟩ hn hx hr
    have hai' : a ≤ i := hai
    rcases hinv with ⟨h7, h2, hb, hc⟩ | ⟨h7, h2, hb⟩
    · by_cases hlt : (i : Int) < E
      · have hlt2 : (i : Int) < ts.length := by omega
        have hg := tk_at ts i (by omega)
        have hw1 := wrapS i (by omega)
        have hb' : endF (kd ts) E.toNat i = b := hb
        by_cases hk : kd ts i = 0
        · have bk : (kd ts i == 0) = true := beq_iff_eq.2 hk
          have T := Hd.mk (show i = b by rw [endF_stop (.inr hk)] at hb'; exact hb')
          clear hk hb hc hb' hK'
          repeat' (first
    | simp only [*, go_nil, go_seq, go_cond, go_block, go_blk, go_skip, go_region, go_ops_nil, go_ops, okG_some, cwD_bool, gw_true, guardG, opG, inB, sval, stake, eats, eaters, get, cval, cval1, St.taken, put_slot, put_room, dem_none, dem_slot, ↓reduceIte, Nat.reduceEqDiff, Nat.reduceLT, reduceCtorEq, decide_true, List.filterMap_cons, List.filterMap_nil, Option.map_some, List.getElem?_cons_zero, List.contains_cons, List.contains_nil, Bool.or_false, Nat.reduceBEq, Bool.false_eq_true, dbin, dIntBin, row9, frz9, frzOf_def, frz_nil, List.length_nil, List.length_cons, dcells, Nat.zero_add, Nat.reduceAdd, Bool.and_false, Int.natCast_nonneg, Int.toNat_natCast, and_self, Nat.add_zero, dp3, fa56_0, ia24]
    | (refine drW_intro (by kernel_rfl) ?_)
    | (refine gw_intro (fun h => ?_) (fun h => ?_) <;> (try simp only [beq_true, beq_false, Bool.not_eq_eq_eq_not, Bool.not_true, Bool.not_false, Bool.not_not, decide_eq_true_eq, decide_eq_false_iff_not, ge_iff_le, gt_iff_lt] at h)))
          refine hn _ ⟨i, ?_, ?_, hai, .inr ⟨?_, ?_, T⟩⟩ ?_
          · simp only [*, put_slot, dem_slot, ↓reduceIte, reduceCtorEq]
          · simp only [*, put_slot, dem_slot, ↓reduceIte, Nat.reduceEqDiff]
          · simp only [*, put_slot, ↓reduceIte]
          · simp only [*, put_slot, dem_slot, ↓reduceIte, Nat.reduceEqDiff]
          · simp only [slotI, *, put_slot, ↓reduceIte, Int.toNat_natCast]
            omega
        · have bk : (kd ts i == 0) = false := beq_eq_false_iff_ne.2 hk
          have T := Hd.mk (show endF (kd ts) E.toNat (i + 1) = b by rw [← endF_step (by omega) hk]; exact hb')
          clear hk hb hc hb' hK'
          repeat' (first
    | simp only [*, go_nil, go_seq, go_cond, go_block, go_blk, go_skip, go_region, go_ops_nil, go_ops, okG_some, cwD_bool, gw_true, gw_false, guardG, opG, inB, sval, stake, eats, eaters, get, cval, cval1, St.taken, put_slot, put_room, dem_none, ↓reduceIte, Nat.reduceEqDiff, Nat.reduceLT, reduceCtorEq, decide_true, List.filterMap_cons, List.filterMap_nil, Option.map_some, List.getElem?_cons_zero, List.contains_cons, List.contains_nil, Bool.or_false, Nat.reduceBEq, Bool.false_eq_true, dbin, dIntBin, row9, frz9, frzOf_def, frz_nil, List.length_nil, List.length_cons, dcells, Nat.zero_add, Nat.reduceAdd, Bool.and_false, Int.natCast_nonneg, Int.toNat_natCast, and_self, Nat.add_zero, dp3, fa56_0, ia24]
    | (refine drW_intro (by kernel_rfl) ?_)
    | (refine gw_intro (fun h => ?_) (fun h => ?_) <;> (try simp only [beq_true, beq_false, Bool.not_eq_eq_eq_not, Bool.not_true, Bool.not_false, Bool.not_not, decide_eq_true_eq, decide_eq_false_iff_not, ge_iff_le, gt_iff_lt] at h)))
          refine hn _ ⟨i + 1, ?_, ?_, Hd.mk (Nat.le_succ_of_le hai'), .inl ⟨?_, ?_, T, .inr (by omega)⟩⟩ ?_
          · simp only [*, put_slot, dem_slot, ↓reduceIte, reduceCtorEq]
          · simp only [*, put_slot, dem_slot, ↓reduceIte, Nat.reduceEqDiff]
          · simp only [*, put_slot, ↓reduceIte]
          · simp only [*, put_slot, dem_slot, ↓reduceIte, Nat.reduceEqDiff]
          · simp only [slotI, *, put_slot, ↓reduceIte, Int.toNat_natCast]
            omega
      · have hb' : endF (kd ts) E.toNat i = b := hb
        rw [endF_stop (.inl (by omega))] at hb'
        have hm : max E (a : Int) = (b : Int) := by omega
        clear hb hb' hc hai hai' hK'
        repeat' (first
    | simp only [*, go_nil, go_seq, go_cond, go_exit, go_xcode, go_region, go_ops_nil, go_ops, okG_some, cwD_bool, gw_false, guardG, opG, inB, sval, stake, eats, eaters, get, St.taken, put_slot, dem_none, ↓reduceIte, Nat.reduceEqDiff, Nat.reduceLT, decide_true, decide_false, List.filterMap_cons, List.filterMap_nil, Option.map_some, List.contains_cons, List.contains_nil, Bool.or_false, Nat.reduceBEq, Bool.false_eq_true, dbin, dIntBin, row9, frz9, frzOf_def, frz_nil, Bool.and_false]
    | (refine drW_intro (by kernel_rfl) ?_)
    | (refine gw_intro (fun h => ?_) (fun h => ?_) <;> (try simp only [beq_true, beq_false, Bool.not_eq_eq_eq_not, Bool.not_true, Bool.not_false, Bool.not_not, decide_eq_true_eq, decide_eq_false_iff_not, ge_iff_le, gt_iff_lt] at h)))
        refine hx _ _ ?_
        repeat' (first
    | simp only [*, go_seq, go_retc, go_xblk, go_region, go_ops_nil, go_ops, okG_some, okB_some, guardG, opG, isPtr, inB, sval, stake, eats, eaters, get, cval, cval1, St.taken, put_slot, put_room, put_box, put_ctr, dem_none, dem_box, setBox_slot, setBox_room, setBox_box, endQ, endR, rvars, rvar, ↓reduceIte, Nat.reduceEqDiff, Nat.reduceLT, reduceCtorEq, decide_true, List.filterMap_cons, List.filterMap_nil, Option.map_some, List.contains_cons, List.contains_nil, List.map_cons, List.map_nil, beq_self_eq_true, Bool.or_false, Bool.and_true, Nat.reduceBEq, Bool.false_eq_true, endN, newV, row9, frz9, frzOf_def, frz_nil, pureB, leaf, leafN, List.all_cons, List.all_nil, List.nil_append, List.take_nil, List.range_zero, List.length_nil, List.length_cons, dcells, Nat.zero_add, Nat.reduceAdd, stepBox, Bool.and_false, and_self, ty51, bd51, dmx]
    | (refine drW_intro (by kernel_rfl) ?_)
    | (refine gw_intro (fun h => ?_) (fun h => ?_) <;> (try simp only [beq_true, beq_false, Bool.not_eq_eq_eq_not, Bool.not_true, Bool.not_false, Bool.not_not, decide_eq_true_eq, decide_eq_false_iff_not, ge_iff_le, gt_iff_lt] at h)))
    · subst hb
      have hlt : ¬ ((i + 1 : Nat) : Int) < (i : Int) := by omega
      have hm : max (i : Int) (a : Int) = (i : Int) := by omega
      clear hai hai' hK'
      repeat' (first
    | simp only [*, go_nil, go_seq, go_cond, go_exit, go_xcode, go_region, go_ops_nil, go_ops, okG_some, cwD_bool, gw_false, guardG, opG, inB, sval, stake, eats, eaters, get, St.taken, put_slot, dem_none, ↓reduceIte, Nat.reduceEqDiff, Nat.reduceLT, decide_true, decide_false, List.filterMap_cons, List.filterMap_nil, Option.map_some, List.contains_cons, List.contains_nil, Bool.or_false, Nat.reduceBEq, Bool.false_eq_true, dbin, dIntBin, row9, frz9, frzOf_def, frz_nil, Bool.and_false]
    | (refine drW_intro (by kernel_rfl) ?_)
    | (refine gw_intro (fun h => ?_) (fun h => ?_) <;> (try simp only [beq_true, beq_false, Bool.not_eq_eq_eq_not, Bool.not_true, Bool.not_false, Bool.not_not, decide_eq_true_eq, decide_eq_false_iff_not, ge_iff_le, gt_iff_lt] at h)))
      refine hx _ _ ?_
      repeat' (first
    | simp only [*, go_seq, go_retc, go_xblk, go_region, go_ops_nil, go_ops, okG_some, okB_some, guardG, opG, isPtr, inB, sval, stake, eats, eaters, get, cval, cval1, St.taken, put_slot, put_room, put_box, put_ctr, dem_none, dem_box, setBox_slot, setBox_room, setBox_box, endQ, endR, rvars, rvar, ↓reduceIte, Nat.reduceEqDiff, Nat.reduceLT, reduceCtorEq, decide_true, List.filterMap_cons, List.filterMap_nil, Option.map_some, List.contains_cons, List.contains_nil, List.map_cons, List.map_nil, beq_self_eq_true, Bool.or_false, Bool.and_true, Nat.reduceBEq, Bool.false_eq_true, endN, newV, row9, frz9, frzOf_def, frz_nil, pureB, leaf, leafN, List.all_cons, List.all_nil, List.nil_append, List.take_nil, List.range_zero, List.length_nil, List.length_cons, dcells, Nat.zero_add, Nat.reduceAdd, stepBox, Bool.and_false, and_self, ty51, bd51, dmx]
    | (refine drW_intro (by kernel_rfl) ?_)
    | (refine gw_intro (fun h => ?_) (fun h => ?_) <;> (try simp only [beq_true, beq_false, Bool.not_eq_eq_eq_not, Bool.not_true, Bool.not_false, Bool.not_not, decide_eq_true_eq, decide_eq_false_iff_not, ge_iff_le, gt_iff_lt] at h)))
end Go.Av
/- Chapter 19: the document's part of tokens; what stands at a place; blanks. -/
set_option linter.unusedSimpArgs false
set_option linter.unusedVariables false
set_option linter.unusedSectionVars false
set_option maxRecDepth 100000
namespace Go.Av
open Go.Proofs Go.Proofs.Ytaldmffahmomoaa Go.RowKit
set_option maxHeartbeats 8000000 in
theorem cut_L (ts : List Tk) (hl : ts.length ≤ 1000000) (fr to : Int) : callL Try.prog ext9 13 [Tks ts, .int .i64 fr, .int .i64 to] [] =
    some (.tuple [.int .i64 ((cutF ts fr to).1 : Nat), .int .i64 ((cutF ts fr to).2 : Nat)], [.no, .no], []) := by
  have lN := TkLen ts
  have hge := cutF_ge ts fr to
  have hmx : max fr 0 = ((cutF ts fr to).1 : Nat) := by show _ = ((fr.toNat : Nat) : Int); omega
  have hK : endF (kd ts) (min to ts.length).toNat (cutF ts fr to).1 = (cutF ts fr to).2 := rfl
  generalize (cutF ts fr to).1 = a at *
  generalize (cutF ts fr to).2 = b at *
  obtain ⟨E, hEq⟩ : ∃ E, E = min to (ts.length : Int) := ⟨_, rfl⟩
  rw [← hEq] at hK
  have hE : E ≤ ts.length := by omega
  refine callK (m := 36) (res := [6, 7]) (rs := [.tmp 6, .tmp 7]) rfl Try.func13 rfl rfl rfl rfl rfl ?_
  have hK' := Hd.mk hK
  clear hK
  by_cases c1 : fr < 0
  · by_cases c2 : to > ts.length
    · have e1 : a = 0 := by omega
      subst e1
      have e2 : E = (ts.length : Int) := by omega
      clear hEq hmx
      subst e2
      repeat' (first
    | simp only [*, go_seq, go_cond, go_block, go_loop, go_region, go_ops_nil, go_ops, okG_some, cwD_bool, gw_true, guardG, opG, isPtr, inB, sval, stake, eats, eaters, get, cval, cval1, croom, St.taken, put_slot, put_room, dem_none, dem_slot, entry_slot, ↓reduceIte, Nat.reduceEqDiff, Nat.reduceLT, reduceCtorEq, decide_true, List.filterMap_cons, List.filterMap_nil, Option.map_some, List.getD_cons_zero, List.getD_cons_succ, List.contains_cons, List.contains_nil, List.map_cons, List.map_nil, Bool.or_false, Nat.reduceBEq, Bool.false_eq_true, dbin, dIntBin, row9, frz9, frzOf_def, frz_nil, List.length_nil, Bool.and_false, gt_iff_lt, len24]
    | (refine drW_intro (by kernel_rfl) ?_)
    | (refine gw_intro (fun h => ?_) (fun h => ?_) <;> (try simp only [beq_true, beq_false, Bool.not_eq_eq_eq_not, Bool.not_true, Bool.not_false, Bool.not_not, decide_eq_true_eq, decide_eq_false_iff_not, ge_iff_le, gt_iff_lt] at h)))
      refine loopH (fun st => ∃ i : Nat, st.slot 0 = .list (ts.map Tk.d) ∧ st.slot 1 = .int .i64 0 ∧ Hd (0 ≤ i) ∧ ((st.slot 8 = .int .i64 i ∧ st.slot 2 = .int .i64 (ts.length : Int) ∧ st.room 2 = [] ∧ Hd (endF (kd ts) ((ts.length : Int)).toNat i = b) ∧ (i = 0 ∨ (i : Int) ≤ (ts.length : Int))) ∨
        (st.slot 8 = .int .i64 (i + 1 : Nat) ∧ st.slot 2 = .int .i64 i ∧ st.room 2 = [] ∧ i = b)) ∧ st.room 1 = []) (fun st => ts.length - slotI st 8) ?_ ?_
      · refine ⟨0, ?_, ?_, Hd.mk (Nat.le_refl _), .inl ⟨?_, ?_, ?_, hK', .inl rfl⟩, ?_⟩
        all_goals simp only [*, put_slot, put_room, dem_slot, dem_room, entry_slot, ↓reduceIte, Nat.reduceEqDiff, reduceCtorEq, List.getD_cons_zero, Int.natCast_zero]
        all_goals rfl
      · rintro st K ⟨i, h0, h1, hai, hinv, hr1⟩ hn hx hr
        have hai' : 0 ≤ i := hai
        rcases hinv with ⟨h7, h2, hr2, hb, hc⟩ | ⟨h7, h2, hr2, hb⟩
        · by_cases hlt : (i : Int) < (ts.length : Int)
          · have hlt2 : (i : Int) < ts.length := by omega
            have hg := tk_at ts i (by omega)
            have hw1 := wrapS i (by omega)
            have hb' : endF (kd ts) ((ts.length : Int)).toNat i = b := hb
            by_cases hk : kd ts i = 0
            · have bk : (kd ts i == 0) = true := beq_iff_eq.2 hk
              have T := Hd.mk (show i = b by rw [endF_stop (.inr hk)] at hb'; exact hb')
              clear hk hb hc hb' hK'
              repeat' (first
    | simp only [*, go_nil, go_seq, go_cond, go_block, go_blk, go_skip, go_region, go_ops_nil, go_ops, okG_some, cwD_bool, gw_true, guardG, opG, inB, sval, stake, eats, eaters, get, cval, cval1, St.taken, put_slot, put_room, dem_none, dem_slot, ↓reduceIte, Nat.reduceEqDiff, Nat.reduceLT, reduceCtorEq, decide_true, List.filterMap_cons, List.filterMap_nil, Option.map_some, List.getElem?_cons_zero, List.contains_cons, List.contains_nil, beq_self_eq_true, Bool.or_false, Bool.and_true, Nat.reduceBEq, Bool.false_eq_true, dbin, dIntBin, row9, frz9, frzOf_def, frz_nil, List.length_nil, List.length_cons, dcells, Nat.zero_add, Nat.reduceAdd, Bool.and_false, Int.natCast_nonneg, Int.toNat_natCast, and_self, Nat.add_zero, dp3, fa56_0, ia24]
    | (refine drW_intro (by kernel_rfl) ?_)
    | (refine gw_intro (fun h => ?_) (fun h => ?_) <;> (try simp only [beq_true, beq_false, Bool.not_eq_eq_eq_not, Bool.not_true, Bool.not_false, Bool.not_not, decide_eq_true_eq, decide_eq_false_iff_not, ge_iff_le, gt_iff_lt] at h)))
              refine hn _ ⟨i, ?_, ?_, hai, .inr ⟨?_, ?_, ?_, T⟩, ?_⟩ ?_
              · simp only [*, put_slot, dem_slot, ↓reduceIte, reduceCtorEq]
              · simp only [*, put_slot, dem_slot, ↓reduceIte, Nat.reduceEqDiff]
              · simp only [*, put_slot, ↓reduceIte]
              · simp only [*, put_slot, dem_slot, ↓reduceIte, Nat.reduceEqDiff]
              · simp only [*, put_room, dem_room, ↓reduceIte, Nat.reduceEqDiff]
              · simp only [*, put_room, dem_room, ↓reduceIte, Nat.reduceEqDiff]
              · simp only [slotI, *, put_slot, ↓reduceIte, Int.toNat_natCast]
                omega
            · have bk : (kd ts i == 0) = false := beq_eq_false_iff_ne.2 hk
              have T := Hd.mk (show endF (kd ts) ((ts.length : Int)).toNat (i + 1) = b by rw [← endF_step (by omega) hk]; exact hb')
              clear hk hb hc hb' hK'
              repeat' (first
    | simp only [*, go_nil, go_seq, go_cond, go_block, go_blk, go_skip, go_region, go_ops_nil, go_ops, okG_some, cwD_bool, gw_true, gw_false, guardG, opG, inB, sval, stake, eats, eaters, get, cval, cval1, St.taken, put_slot, put_room, dem_none, ↓reduceIte, Nat.reduceEqDiff, Nat.reduceLT, reduceCtorEq, decide_true, List.filterMap_cons, List.filterMap_nil, Option.map_some, List.getElem?_cons_zero, List.contains_cons, List.contains_nil, beq_self_eq_true, Bool.or_false, Bool.and_true, Nat.reduceBEq, Bool.false_eq_true, dbin, dIntBin, row9, frz9, frzOf_def, frz_nil, List.length_nil, List.length_cons, dcells, Nat.zero_add, Nat.reduceAdd, Bool.and_false, Int.natCast_nonneg, Int.toNat_natCast, and_self, Nat.add_zero, dp3, fa56_0, ia24]
    | (refine drW_intro (by kernel_rfl) ?_)
    | (refine gw_intro (fun h => ?_) (fun h => ?_) <;> (try simp only [beq_true, beq_false, Bool.not_eq_eq_eq_not, Bool.not_true, Bool.not_false, Bool.not_not, decide_eq_true_eq, decide_eq_false_iff_not, ge_iff_le, gt_iff_lt] at h)))
              refine hn _ ⟨i + 1, ?_, ?_, Hd.mk (Nat.le_succ_of_le hai'), .inl ⟨?_, ?_, ?_, T, .inr (by omega)⟩, ?_⟩ ?_
              · simp only [*, put_slot, dem_slot, ↓reduceIte, reduceCtorEq]
              · simp only [*, put_slot, dem_slot, ↓reduceIte, Nat.reduceEqDiff]
              · simp only [*, put_slot, ↓reduceIte]
              · simp only [*, put_slot, dem_slot, ↓reduceIte, Nat.reduceEqDiff]
              · simp only [*, put_room, dem_room, ↓reduceIte, Nat.reduceEqDiff]
              · simp only [*, put_room, dem_room, ↓reduceIte, Nat.reduceEqDiff]
              · simp only [slotI, *, put_slot, ↓reduceIte, Int.toNat_natCast]
                omega
          · have hb' : endF (kd ts) ((ts.length : Int)).toNat i = b := hb
            rw [endF_stop (.inl (by omega))] at hb'
            have hge1 : 0 ≤ b := hge
            by_cases hm : (ts.length : Int) < 0
            · have hbb : b = 0 := by omega
              clear hb hb' hc hai hai' hK' hge hge1
              repeat' (first
    | simp only [*, go_nil, go_seq, go_cond, go_exit, go_xcode, go_region, go_ops_nil, go_ops, okG_some, cwD_bool, gw_false, guardG, opG, inB, sval, stake, eats, eaters, get, St.taken, put_slot, dem_none, ↓reduceIte, Nat.reduceEqDiff, Nat.reduceLT, decide_true, decide_false, List.filterMap_cons, List.filterMap_nil, Option.map_some, List.contains_cons, List.contains_nil, Bool.or_false, Nat.reduceBEq, Bool.false_eq_true, dbin, dIntBin, row9, frz9, frzOf_def, frz_nil, Bool.and_false]
    | (refine drW_intro (by kernel_rfl) ?_)
    | (refine gw_intro (fun h => ?_) (fun h => ?_) <;> (try simp only [beq_true, beq_false, Bool.not_eq_eq_eq_not, Bool.not_true, Bool.not_false, Bool.not_not, decide_eq_true_eq, decide_eq_false_iff_not, ge_iff_le, gt_iff_lt] at h)))
              refine hx _ _ ?_
              repeat' (first
    | simp only [*, go_seq, go_cond, go_retc, go_xblk, go_region, go_ops_nil, go_ops, okG_some, cwD_bool, gw_true, guardG, opG, inB, sval, stake, eats, eaters, get, St.taken, put_slot, put_room, put_box, dem_none, dem_slot, dem_box, dem_room, endQ, endR, endV, rvars, rvar, room1, ↓reduceIte, Nat.reduceEqDiff, Nat.reduceLT, decide_true, List.filterMap_cons, List.filterMap_nil, Option.map_some, List.contains_cons, List.contains_nil, List.map_cons, List.map_nil, beq_self_eq_true, Bool.or_false, Bool.or_true, Nat.reduceBEq, Bool.false_eq_true, dbin, dIntBin, row9, frz9, frzOf_def, frz_nil, pureB, leaf, leafN, List.take_nil, List.range_zero, Bool.and_false, and_true]
    | (refine drW_intro (by kernel_rfl) ?_)
    | (refine gw_intro (fun h => ?_) (fun h => ?_) <;> (try simp only [beq_true, beq_false, Bool.not_eq_eq_eq_not, Bool.not_true, Bool.not_false, Bool.not_not, decide_eq_true_eq, decide_eq_false_iff_not, ge_iff_le, gt_iff_lt] at h)))
              all_goals rfl
            · have hbb : (b : Int) = (ts.length : Int) := by omega
              clear hb hb' hc hai hai' hK' hge hge1
              repeat' (first
    | simp only [*, go_nil, go_seq, go_cond, go_exit, go_xcode, go_region, go_ops_nil, go_ops, okG_some, cwD_bool, gw_false, guardG, opG, inB, sval, stake, eats, eaters, get, St.taken, put_slot, dem_none, ↓reduceIte, Nat.reduceEqDiff, Nat.reduceLT, decide_true, decide_false, List.filterMap_cons, List.filterMap_nil, Option.map_some, List.contains_cons, List.contains_nil, Bool.or_false, Nat.reduceBEq, Bool.false_eq_true, dbin, dIntBin, row9, frz9, frzOf_def, frz_nil, Bool.and_false]
    | (refine drW_intro (by kernel_rfl) ?_)
    | (refine gw_intro (fun h => ?_) (fun h => ?_) <;> (try simp only [beq_true, beq_false, Bool.not_eq_eq_eq_not, Bool.not_true, Bool.not_false, Bool.not_not, decide_eq_true_eq, decide_eq_false_iff_not, ge_iff_le, gt_iff_lt] at h)))
              refine hx _ _ ?_
              repeat' (first
    | simp only [*, go_seq, go_cond, go_skip, go_retc, go_xblk, go_region, go_ops_nil, go_ops, okG_some, cwD_bool, gw_false, guardG, opG, inB, sval, stake, eats, eaters, get, St.taken, put_slot, put_room, put_box, dem_none, dem_slot, dem_box, dem_room, endQ, endR, endV, rvars, rvar, room1, ↓reduceIte, Nat.reduceEqDiff, Nat.reduceLT, decide_true, decide_false, List.filterMap_cons, List.filterMap_nil, Option.map_some, List.contains_cons, List.contains_nil, List.map_cons, List.map_nil, beq_self_eq_true, Bool.or_false, Bool.or_true, Nat.reduceBEq, Bool.false_eq_true, dbin, dIntBin, row9, frz9, frzOf_def, frz_nil, pureB, leaf, leafN, List.take_nil, List.range_zero, Bool.and_false, and_true]
    | (refine drW_intro (by kernel_rfl) ?_)
    | (refine gw_intro (fun h => ?_) (fun h => ?_) <;> (try simp only [beq_true, beq_false, Bool.not_eq_eq_eq_not, Bool.not_true, Bool.not_false, Bool.not_not, decide_eq_true_eq, decide_eq_false_iff_not, ge_iff_le, gt_iff_lt] at h)))
              all_goals rfl
        · subst hb
          have hlt : ¬ ((i + 1 : Nat) : Int) < (i : Int) := by omega
          have hm : ¬ (i : Int) < 0 := by omega
          clear hai hai' hK'
          repeat' (first
    | simp only [*, go_nil, go_seq, go_cond, go_exit, go_xcode, go_region, go_ops_nil, go_ops, okG_some, cwD_bool, gw_false, guardG, opG, inB, sval, stake, eats, eaters, get, St.taken, put_slot, dem_none, ↓reduceIte, Nat.reduceEqDiff, Nat.reduceLT, decide_true, decide_false, List.filterMap_cons, List.filterMap_nil, Option.map_some, List.contains_cons, List.contains_nil, Bool.or_false, Nat.reduceBEq, Bool.false_eq_true, dbin, dIntBin, row9, frz9, frzOf_def, frz_nil, Bool.and_false]
    | (refine drW_intro (by kernel_rfl) ?_)
    | (refine gw_intro (fun h => ?_) (fun h => ?_) <;> (try simp only [beq_true, beq_false, Bool.not_eq_eq_eq_not, Bool.not_true, Bool.not_false, Bool.not_not, decide_eq_true_eq, decide_eq_false_iff_not, ge_iff_le, gt_iff_lt] at h)))
          refine hx _ _ ?_
          repeat' (first
    | simp only [*, go_seq, go_cond, go_skip, go_retc, go_xblk, go_region, go_ops_nil, go_ops, okG_some, cwD_bool, gw_false, guardG, opG, inB, sval, stake, eats, eaters, get, St.taken, put_slot, put_room, put_box, dem_none, dem_slot, dem_box, dem_room, endQ, endR, endV, rvars, rvar, room1, ↓reduceIte, Nat.reduceEqDiff, Nat.reduceLT, decide_true, decide_false, List.filterMap_cons, List.filterMap_nil, Option.map_some, List.contains_cons, List.contains_nil, List.map_cons, List.map_nil, beq_self_eq_true, Bool.or_false, Bool.or_true, Nat.reduceBEq, Bool.false_eq_true, dbin, dIntBin, row9, frz9, frzOf_def, frz_nil, pureB, leaf, leafN, List.take_nil, List.range_zero, Bool.and_false, and_true]
    | (refine drW_intro (by kernel_rfl) ?_)
    | (refine gw_intro (fun h => ?_) (fun h => ?_) <;> (try simp only [beq_true, beq_false, Bool.not_eq_eq_eq_not, Bool.not_true, Bool.not_false, Bool.not_not, decide_eq_true_eq, decide_eq_false_iff_not, ge_iff_le, gt_iff_lt] at h)))
          all_goals rfl
    · have e1 : a = 0 := by omega
      subst e1
      have e2 : to = E := by omega
      clear hEq hmx
      subst e2
      repeat' (first
    | simp only [*, go_seq, go_cond, go_block, go_skip, go_loop, go_region, go_ops_nil, go_ops, okG_some, cwD_bool, gw_true, gw_false, guardG, opG, isPtr, inB, sval, stake, eats, eaters, get, cval, cval1, croom, St.taken, put_slot, put_room, dem_none, entry_slot, ↓reduceIte, Nat.reduceEqDiff, Nat.reduceLT, reduceCtorEq, decide_true, decide_false, List.filterMap_cons, List.filterMap_nil, Option.map_some, List.getD_cons_zero, List.getD_cons_succ, List.contains_cons, List.contains_nil, List.map_cons, List.map_nil, Bool.or_false, Nat.reduceBEq, Bool.false_eq_true, dbin, dIntBin, row9, frz9, frzOf_def, frz_nil, List.length_nil, Bool.and_false, gt_iff_lt, len24]
    | (refine drW_intro (by kernel_rfl) ?_)
    | (refine gw_intro (fun h => ?_) (fun h => ?_) <;> (try simp only [beq_true, beq_false, Bool.not_eq_eq_eq_not, Bool.not_true, Bool.not_false, Bool.not_not, decide_eq_true_eq, decide_eq_false_iff_not, ge_iff_le, gt_iff_lt] at h)))
      refine loopH (fun st => ∃ i : Nat, st.slot 0 = .list (ts.map Tk.d) ∧ st.slot 1 = .int .i64 0 ∧ Hd (0 ≤ i) ∧ ((st.slot 8 = .int .i64 i ∧ st.slot 2 = .int .i64 to ∧ st.room 2 = [] ∧ Hd (endF (kd ts) (to).toNat i = b) ∧ (i = 0 ∨ (i : Int) ≤ to)) ∨
        (st.slot 8 = .int .i64 (i + 1 : Nat) ∧ st.slot 2 = .int .i64 i ∧ st.room 2 = [] ∧ i = b)) ∧ st.room 1 = []) (fun st => ts.length - slotI st 8) ?_ ?_
      · refine ⟨0, ?_, ?_, Hd.mk (Nat.le_refl _), .inl ⟨?_, ?_, ?_, hK', .inl rfl⟩, ?_⟩
        all_goals simp only [*, put_slot, put_room, dem_slot, dem_room, entry_slot, entry_room, ↓reduceIte, Nat.reduceEqDiff, reduceCtorEq, List.getD_cons_zero, List.getD_cons_succ, Int.natCast_zero]
        all_goals rfl
      · rintro st K ⟨i, h0, h1, hai, hinv, hr1⟩ hn hx hr
        have hai' : 0 ≤ i := hai
        rcases hinv with ⟨h7, h2, hr2, hb, hc⟩ | ⟨h7, h2, hr2, hb⟩
        · by_cases hlt : (i : Int) < to
          · have hlt2 : (i : Int) < ts.length := by omega
            have hg := tk_at ts i (by omega)
            have hw1 := wrapS i (by omega)
            have hb' : endF (kd ts) (to).toNat i = b := hb
            by_cases hk : kd ts i = 0
            · have bk : (kd ts i == 0) = true := beq_iff_eq.2 hk
              have T := Hd.mk (show i = b by rw [endF_stop (.inr hk)] at hb'; exact hb')
              clear hk hb hc hb' hK'
              repeat' (first
    | simp only [*, go_nil, go_seq, go_cond, go_block, go_blk, go_skip, go_region, go_ops_nil, go_ops, okG_some, cwD_bool, gw_true, guardG, opG, inB, sval, stake, eats, eaters, get, cval, cval1, St.taken, put_slot, put_room, dem_none, dem_slot, ↓reduceIte, Nat.reduceEqDiff, Nat.reduceLT, reduceCtorEq, decide_true, List.filterMap_cons, List.filterMap_nil, Option.map_some, List.getElem?_cons_zero, List.contains_cons, List.contains_nil, beq_self_eq_true, Bool.or_false, Bool.and_true, Nat.reduceBEq, Bool.false_eq_true, dbin, dIntBin, row9, frz9, frzOf_def, frz_nil, List.length_nil, List.length_cons, dcells, Nat.zero_add, Nat.reduceAdd, Bool.and_false, Int.natCast_nonneg, Int.toNat_natCast, and_self, Nat.add_zero, dp3, fa56_0, ia24]
    | (refine drW_intro (by kernel_rfl) ?_)
    | (refine gw_intro (fun h => ?_) (fun h => ?_) <;> (try simp only [beq_true, beq_false, Bool.not_eq_eq_eq_not, Bool.not_true, Bool.not_false, Bool.not_not, decide_eq_true_eq, decide_eq_false_iff_not, ge_iff_le, gt_iff_lt] at h)))
              refine hn _ ⟨i, ?_, ?_, hai, .inr ⟨?_, ?_, ?_, T⟩, ?_⟩ ?_
              · simp only [*, put_slot, dem_slot, ↓reduceIte, reduceCtorEq]
              · simp only [*, put_slot, dem_slot, ↓reduceIte, Nat.reduceEqDiff]
              · simp only [*, put_slot, ↓reduceIte]
              · simp only [*, put_slot, dem_slot, ↓reduceIte, Nat.reduceEqDiff]
              · simp only [*, put_room, dem_room, ↓reduceIte, Nat.reduceEqDiff]
              · simp only [*, put_room, dem_room, ↓reduceIte, Nat.reduceEqDiff]
              · simp only [slotI, *, put_slot, ↓reduceIte, Int.toNat_natCast]
                omega
            · have bk : (kd ts i == 0) = false := beq_eq_false_iff_ne.2 hk
              have T := Hd.mk (show endF (kd ts) (to).toNat (i + 1) = b by rw [← endF_step (by omega) hk]; exact hb')
              clear hk hb hc hb' hK'
              repeat' (first
    | simp only [*, go_nil, go_seq, go_cond, go_block, go_blk, go_skip, go_region, go_ops_nil, go_ops, okG_some, cwD_bool, gw_true, gw_false, guardG, opG, inB, sval, stake, eats, eaters, get, cval, cval1, St.taken, put_slot, put_room, dem_none, ↓reduceIte, Nat.reduceEqDiff, Nat.reduceLT, reduceCtorEq, decide_true, List.filterMap_cons, List.filterMap_nil, Option.map_some, List.getElem?_cons_zero, List.contains_cons, List.contains_nil, beq_self_eq_true, Bool.or_false, Bool.and_true, Nat.reduceBEq, Bool.false_eq_true, dbin, dIntBin, row9, frz9, frzOf_def, frz_nil, List.length_nil, List.length_cons, dcells, Nat.zero_add, Nat.reduceAdd, Bool.and_false, Int.natCast_nonneg, Int.toNat_natCast, and_self, Nat.add_zero, dp3, fa56_0, ia24]
    | (refine drW_intro (by kernel_rfl) ?_)
    | (refine gw_intro (fun h => ?_) (fun h => ?_) <;> (try simp only [beq_true, beq_false, Bool.not_eq_eq_eq_not, Bool.not_true, Bool.not_false, Bool.not_not, decide_eq_true_eq, decide_eq_false_iff_not, ge_iff_le, gt_iff_lt] at h)))
              refine hn _ ⟨i + 1, ?_, ?_, Hd.mk (Nat.le_succ_of_le hai'), .inl ⟨?_, ?_, ?_, T, .inr (by omega)⟩, ?_⟩ ?_
              · simp only [*, put_slot, dem_slot, ↓reduceIte, reduceCtorEq]
              · simp only [*, put_slot, dem_slot, ↓reduceIte, Nat.reduceEqDiff]
              · simp only [*, put_slot, ↓reduceIte]
              · simp only [*, put_slot, dem_slot, ↓reduceIte, Nat.reduceEqDiff]
              · simp only [*, put_room, dem_room, ↓reduceIte, Nat.reduceEqDiff]
              · simp only [*, put_room, dem_room, ↓reduceIte, Nat.reduceEqDiff]
              · simp only [slotI, *, put_slot, ↓reduceIte, Int.toNat_natCast]
                omega
          · have hb' : endF (kd ts) (to).toNat i = b := hb
            rw [endF_stop (.inl (by omega))] at hb'
            have hge1 : 0 ≤ b := hge
            by_cases hm : to < 0
            · have hbb : b = 0 := by omega
              clear hb hb' hc hai hai' hK' hge hge1
              repeat' (first
    | simp only [*, go_nil, go_seq, go_cond, go_exit, go_xcode, go_region, go_ops_nil, go_ops, okG_some, cwD_bool, gw_false, guardG, opG, inB, sval, stake, eats, eaters, get, St.taken, put_slot, dem_none, ↓reduceIte, Nat.reduceEqDiff, Nat.reduceLT, decide_true, decide_false, List.filterMap_cons, List.filterMap_nil, Option.map_some, List.contains_cons, List.contains_nil, Bool.or_false, Nat.reduceBEq, Bool.false_eq_true, dbin, dIntBin, row9, frz9, frzOf_def, frz_nil, Bool.and_false]
    | (refine drW_intro (by kernel_rfl) ?_)
    | (refine gw_intro (fun h => ?_) (fun h => ?_) <;> (try simp only [beq_true, beq_false, Bool.not_eq_eq_eq_not, Bool.not_true, Bool.not_false, Bool.not_not, decide_eq_true_eq, decide_eq_false_iff_not, ge_iff_le, gt_iff_lt] at h)))
              refine hx _ _ ?_
              repeat' (first
    | simp only [*, go_seq, go_cond, go_retc, go_xblk, go_region, go_ops_nil, go_ops, okG_some, cwD_bool, gw_true, guardG, opG, inB, sval, stake, eats, eaters, get, St.taken, put_slot, put_room, put_box, dem_none, dem_slot, dem_box, dem_room, endQ, endR, endV, rvars, rvar, room1, ↓reduceIte, Nat.reduceEqDiff, Nat.reduceLT, decide_true, List.filterMap_cons, List.filterMap_nil, Option.map_some, List.contains_cons, List.contains_nil, List.map_cons, List.map_nil, beq_self_eq_true, Bool.or_false, Bool.or_true, Nat.reduceBEq, Bool.false_eq_true, dbin, dIntBin, row9, frz9, frzOf_def, frz_nil, pureB, leaf, leafN, List.take_nil, List.range_zero, Bool.and_false, and_true]
    | (refine drW_intro (by kernel_rfl) ?_)
    | (refine gw_intro (fun h => ?_) (fun h => ?_) <;> (try simp only [beq_true, beq_false, Bool.not_eq_eq_eq_not, Bool.not_true, Bool.not_false, Bool.not_not, decide_eq_true_eq, decide_eq_false_iff_not, ge_iff_le, gt_iff_lt] at h)))
              all_goals rfl
            · have hbb : (b : Int) = to := by omega
              clear hb hb' hc hai hai' hK' hge hge1
              repeat' (first
    | simp only [*, go_nil, go_seq, go_cond, go_exit, go_xcode, go_region, go_ops_nil, go_ops, okG_some, cwD_bool, gw_false, guardG, opG, inB, sval, stake, eats, eaters, get, St.taken, put_slot, dem_none, ↓reduceIte, Nat.reduceEqDiff, Nat.reduceLT, decide_true, decide_false, List.filterMap_cons, List.filterMap_nil, Option.map_some, List.contains_cons, List.contains_nil, Bool.or_false, Nat.reduceBEq, Bool.false_eq_true, dbin, dIntBin, row9, frz9, frzOf_def, frz_nil, Bool.and_false]
    | (refine drW_intro (by kernel_rfl) ?_)
    | (refine gw_intro (fun h => ?_) (fun h => ?_) <;> (try simp only [beq_true, beq_false, Bool.not_eq_eq_eq_not, Bool.not_true, Bool.not_false, Bool.not_not, decide_eq_true_eq, decide_eq_false_iff_not, ge_iff_le, gt_iff_lt] at h)))
              refine hx _ _ ?_
              repeat' (first
    | simp only [*, go_seq, go_cond, go_skip, go_retc, go_xblk, go_region, go_ops_nil, go_ops, okG_some, cwD_bool, gw_false, guardG, opG, inB, sval, stake, eats, eaters, get, St.taken, put_slot, put_room, put_box, dem_none, dem_slot, dem_box, dem_room, endQ, endR, endV, rvars, rvar, room1, ↓reduceIte, Nat.reduceEqDiff, Nat.reduceLT, decide_true, decide_false, List.filterMap_cons, List.filterMap_nil, Option.map_some, List.contains_cons, List.contains_nil, List.map_cons, List.map_nil, beq_self_eq_true, Bool.or_false, Bool.or_true, Nat.reduceBEq, Bool.false_eq_true, dbin, dIntBin, row9, frz9, frzOf_def, frz_nil, pureB, leaf, leafN, List.take_nil, List.range_zero, Bool.and_false, and_true]
    | (refine drW_intro (by kernel_rfl) ?_)
    | (refine gw_intro (fun h => ?_) (fun h => ?_) <;> (try simp only [beq_true, beq_false, Bool.not_eq_eq_eq_not, Bool.not_true, Bool.not_false, Bool.not_not, decide_eq_true_eq, decide_eq_false_iff_not, ge_iff_le, gt_iff_lt] at h)))
              all_goals rfl
        · subst hb
          have hlt : ¬ ((i + 1 : Nat) : Int) < (i : Int) := by omega
          have hm : ¬ (i : Int) < 0 := by omega
          clear hai hai' hK'
          repeat' (first
    | simp only [*, go_nil, go_seq, go_cond, go_exit, go_xcode, go_region, go_ops_nil, go_ops, okG_some, cwD_bool, gw_false, guardG, opG, inB, sval, stake, eats, eaters, get, St.taken, put_slot, dem_none, ↓reduceIte, Nat.reduceEqDiff, Nat.reduceLT, decide_true, decide_false, List.filterMap_cons, List.filterMap_nil, Option.map_some, List.contains_cons, List.contains_nil, Bool.or_false, Nat.reduceBEq, Bool.false_eq_true, dbin, dIntBin, row9, frz9, frzOf_def, frz_nil, Bool.and_false]
    | (refine drW_intro (by kernel_rfl) ?_)
    | (refine gw_intro (fun h => ?_) (fun h => ?_) <;> (try simp only [beq_true, beq_false, Bool.not_eq_eq_eq_not, Bool.not_true, Bool.not_false, Bool.not_not, decide_eq_true_eq, decide_eq_false_iff_not, ge_iff_le, gt_iff_lt] at h)))
          refine hx _ _ ?_
          repeat' (first
    | simp only [*, go_seq, go_cond, go_skip, go_retc, go_xblk, go_region, go_ops_nil, go_ops, okG_some, cwD_bool, gw_false, guardG, opG, inB, sval, stake, eats, eaters, get, St.taken, put_slot, put_room, put_box, dem_none, dem_slot, dem_box, dem_room, endQ, endR, endV, rvars, rvar, room1, ↓reduceIte, Nat.reduceEqDiff, Nat.reduceLT, decide_true, decide_false, List.filterMap_cons, List.filterMap_nil, Option.map_some, List.contains_cons, List.contains_nil, List.map_cons, List.map_nil, beq_self_eq_true, Bool.or_false, Bool.or_true, Nat.reduceBEq, Bool.false_eq_true, dbin, dIntBin, row9, frz9, frzOf_def, frz_nil, pureB, leaf, leafN, List.take_nil, List.range_zero, Bool.and_false, and_true]
    | (refine drW_intro (by kernel_rfl) ?_)
    | (refine gw_intro (fun h => ?_) (fun h => ?_) <;> (try simp only [beq_true, beq_false, Bool.not_eq_eq_eq_not, Bool.not_true, Bool.not_false, Bool.not_not, decide_eq_true_eq, decide_eq_false_iff_not, ge_iff_le, gt_iff_lt] at h)))
          all_goals rfl
  · by_cases c2 : to > ts.length
    · have e1 : fr = (a : Int) := by omega
      subst e1
      have e2 : E = (ts.length : Int) := by omega
      clear hEq hmx
      subst e2
      repeat' (first
    | simp only [*, go_seq, go_cond, go_block, go_skip, go_loop, go_region, go_ops_nil, go_ops, okG_some, cwD_bool, gw_true, gw_false, guardG, opG, isPtr, inB, sval, stake, eats, eaters, get, cval, cval1, croom, St.taken, put_slot, put_room, dem_none, dem_slot, entry_slot, ↓reduceIte, Nat.reduceEqDiff, Nat.reduceLT, reduceCtorEq, decide_true, decide_false, List.filterMap_cons, List.filterMap_nil, Option.map_some, List.getD_cons_zero, List.getD_cons_succ, List.contains_cons, List.contains_nil, List.map_cons, List.map_nil, Bool.or_false, Nat.reduceBEq, Bool.false_eq_true, dbin, dIntBin, row9, frz9, frzOf_def, frz_nil, List.length_nil, Bool.and_false, gt_iff_lt, len24]
    | (refine drW_intro (by kernel_rfl) ?_)
    | (refine gw_intro (fun h => ?_) (fun h => ?_) <;> (try simp only [beq_true, beq_false, Bool.not_eq_eq_eq_not, Bool.not_true, Bool.not_false, Bool.not_not, decide_eq_true_eq, decide_eq_false_iff_not, ge_iff_le, gt_iff_lt] at h)))
      refine loopH (fun st => ∃ i : Nat, st.slot 0 = .list (ts.map Tk.d) ∧ st.slot 1 = .int .i64 (a : Int) ∧ Hd (a ≤ i) ∧ ((st.slot 8 = .int .i64 i ∧ st.slot 2 = .int .i64 (ts.length : Int) ∧ st.room 2 = [] ∧ Hd (endF (kd ts) ((ts.length : Int)).toNat i = b) ∧ (i = a ∨ (i : Int) ≤ (ts.length : Int))) ∨
        (st.slot 8 = .int .i64 (i + 1 : Nat) ∧ st.slot 2 = .int .i64 i ∧ st.room 2 = [] ∧ i = b)) ∧ st.room 1 = []) (fun st => ts.length - slotI st 8) ?_ ?_
      · refine ⟨a, ?_, ?_, Hd.mk (Nat.le_refl _), .inl ⟨?_, ?_, ?_, hK', .inl rfl⟩, ?_⟩
        all_goals simp only [*, put_slot, put_room, dem_slot, dem_room, entry_slot, entry_room, ↓reduceIte, Nat.reduceEqDiff, reduceCtorEq, List.getD_cons_zero, List.getD_cons_succ]
        all_goals rfl
      · rintro st K ⟨i, h0, h1, hai, hinv, hr1⟩ hn hx hr
        have hai' : a ≤ i := hai
        rcases hinv with ⟨h7, h2, hr2, hb, hc⟩ | ⟨h7, h2, hr2, hb⟩
        · by_cases hlt : (i : Int) < (ts.length : Int)
          · have hlt2 : (i : Int) < ts.length := by omega
            have hg := tk_at ts i (by omega)
            have hw1 := wrapS i (by omega)
            have hb' : endF (kd ts) ((ts.length : Int)).toNat i = b := hb
            by_cases hk : kd ts i = 0
            · have bk : (kd ts i == 0) = true := beq_iff_eq.2 hk
              have T := Hd.mk (show i = b by rw [endF_stop (.inr hk)] at hb'; exact hb')
              clear hk hb hc hb' hK'
              repeat' (first
    | simp only [*, go_nil, go_seq, go_cond, go_block, go_blk, go_skip, go_region, go_ops_nil, go_ops, okG_some, cwD_bool, gw_true, guardG, opG, inB, sval, stake, eats, eaters, get, cval, cval1, St.taken, put_slot, put_room, dem_none, dem_slot, ↓reduceIte, Nat.reduceEqDiff, Nat.reduceLT, reduceCtorEq, decide_true, List.filterMap_cons, List.filterMap_nil, Option.map_some, List.getElem?_cons_zero, List.contains_cons, List.contains_nil, beq_self_eq_true, Bool.or_false, Bool.and_true, Nat.reduceBEq, Bool.false_eq_true, dbin, dIntBin, row9, frz9, frzOf_def, frz_nil, List.length_nil, List.length_cons, dcells, Nat.zero_add, Nat.reduceAdd, Bool.and_false, Int.natCast_nonneg, Int.toNat_natCast, and_self, Nat.add_zero, dp3, fa56_0, ia24]
    | (refine drW_intro (by kernel_rfl) ?_)
    | (refine gw_intro (fun h => ?_) (fun h => ?_) <;> (try simp only [beq_true, beq_false, Bool.not_eq_eq_eq_not, Bool.not_true, Bool.not_false, Bool.not_not, decide_eq_true_eq, decide_eq_false_iff_not, ge_iff_le, gt_iff_lt] at h)))
              refine hn _ ⟨i, ?_, ?_, hai, .inr ⟨?_, ?_, ?_, T⟩, ?_⟩ ?_
              · simp only [*, put_slot, dem_slot, ↓reduceIte, reduceCtorEq]
              · simp only [*, put_slot, dem_slot, ↓reduceIte, Nat.reduceEqDiff]
              · simp only [*, put_slot, ↓reduceIte]
              · simp only [*, put_slot, dem_slot, ↓reduceIte, Nat.reduceEqDiff]
              · simp only [*, put_room, dem_room, ↓reduceIte, Nat.reduceEqDiff]
              · simp only [*, put_room, dem_room, ↓reduceIte, Nat.reduceEqDiff]
              · simp only [slotI, *, put_slot, ↓reduceIte, Int.toNat_natCast]
                omega
            · have bk : (kd ts i == 0) = false := beq_eq_false_iff_ne.2 hk
              have T := Hd.mk (show endF (kd ts) ((ts.length : Int)).toNat (i + 1) = b by rw [← endF_step (by omega) hk]; exact hb')
              clear hk hb hc hb' hK'
              repeat' (first
    | simp only [*, go_nil, go_seq, go_cond, go_block, go_blk, go_skip, go_region, go_ops_nil, go_ops, okG_some, cwD_bool, gw_true, gw_false, guardG, opG, inB, sval, stake, eats, eaters, get, cval, cval1, St.taken, put_slot, put_room, dem_none, ↓reduceIte, Nat.reduceEqDiff, Nat.reduceLT, reduceCtorEq, decide_true, List.filterMap_cons, List.filterMap_nil, Option.map_some, List.getElem?_cons_zero, List.contains_cons, List.contains_nil, beq_self_eq_true, Bool.or_false, Bool.and_true, Nat.reduceBEq, Bool.false_eq_true, dbin, dIntBin, row9, frz9, frzOf_def, frz_nil, List.length_nil, List.length_cons, dcells, Nat.zero_add, Nat.reduceAdd, Bool.and_false, Int.natCast_nonneg, Int.toNat_natCast, and_self, Nat.add_zero, dp3, fa56_0, ia24]
    | (refine drW_intro (by kernel_rfl) ?_)
    | (refine gw_intro (fun h => ?_) (fun h => ?_) <;> (try simp only [beq_true, beq_false, Bool.not_eq_eq_eq_not, Bool.not_true, Bool.not_false, Bool.not_not, decide_eq_true_eq, decide_eq_false_iff_not, ge_iff_le, gt_iff_lt] at h)))
              refine hn _ ⟨i + 1, ?_, ?_, Hd.mk (Nat.le_succ_of_le hai'), .inl ⟨?_, ?_, ?_, T, .inr (by omega)⟩, ?_⟩ ?_
              · simp only [*, put_slot, dem_slot, ↓reduceIte, reduceCtorEq]
              · simp only [*, put_slot, dem_slot, ↓reduceIte, Nat.reduceEqDiff]
              · simp only [*, put_slot, ↓reduceIte]
              · simp only [*, put_slot, dem_slot, ↓reduceIte, Nat.reduceEqDiff]
              · simp only [*, put_room, dem_room, ↓reduceIte, Nat.reduceEqDiff]
              · simp only [*, put_room, dem_room, ↓reduceIte, Nat.reduceEqDiff]
              · simp only [slotI, *, put_slot, ↓reduceIte, Int.toNat_natCast]
                omega
          · have hb' : endF (kd ts) ((ts.length : Int)).toNat i = b := hb
            rw [endF_stop (.inl (by omega))] at hb'
            have hge1 : a ≤ b := hge
            by_cases hm : (ts.length : Int) < (a : Int)
            · have hbb : b = a := by omega
              clear hb hb' hc hai hai' hK' hge hge1
              repeat' (first
    | simp only [*, go_nil, go_seq, go_cond, go_exit, go_xcode, go_region, go_ops_nil, go_ops, okG_some, cwD_bool, gw_false, guardG, opG, inB, sval, stake, eats, eaters, get, St.taken, put_slot, dem_none, ↓reduceIte, Nat.reduceEqDiff, Nat.reduceLT, decide_true, decide_false, List.filterMap_cons, List.filterMap_nil, Option.map_some, List.contains_cons, List.contains_nil, Bool.or_false, Nat.reduceBEq, Bool.false_eq_true, dbin, dIntBin, row9, frz9, frzOf_def, frz_nil, Bool.and_false]
    | (refine drW_intro (by kernel_rfl) ?_)
    | (refine gw_intro (fun h => ?_) (fun h => ?_) <;> (try simp only [beq_true, beq_false, Bool.not_eq_eq_eq_not, Bool.not_true, Bool.not_false, Bool.not_not, decide_eq_true_eq, decide_eq_false_iff_not, ge_iff_le, gt_iff_lt] at h)))
              refine hx _ _ ?_
              repeat' (first
    | simp only [*, go_seq, go_cond, go_retc, go_xblk, go_region, go_ops_nil, go_ops, okG_some, cwD_bool, gw_true, guardG, opG, inB, sval, stake, eats, eaters, get, St.taken, put_slot, put_room, put_box, dem_none, dem_slot, dem_box, dem_room, endQ, endR, endV, rvars, rvar, room1, ↓reduceIte, Nat.reduceEqDiff, Nat.reduceLT, decide_true, List.filterMap_cons, List.filterMap_nil, Option.map_some, List.contains_cons, List.contains_nil, List.map_cons, List.map_nil, beq_self_eq_true, Bool.or_false, Bool.or_true, Nat.reduceBEq, Bool.false_eq_true, dbin, dIntBin, row9, frz9, frzOf_def, frz_nil, pureB, leaf, leafN, List.take_nil, List.range_zero, Bool.and_false, and_self]
    | (refine drW_intro (by kernel_rfl) ?_)
    | (refine gw_intro (fun h => ?_) (fun h => ?_) <;> (try simp only [beq_true, beq_false, Bool.not_eq_eq_eq_not, Bool.not_true, Bool.not_false, Bool.not_not, decide_eq_true_eq, decide_eq_false_iff_not, ge_iff_le, gt_iff_lt] at h)))
              skip
            · have hbb : (b : Int) = (ts.length : Int) := by omega
              clear hb hb' hc hai hai' hK' hge hge1
              repeat' (first
    | simp only [*, go_nil, go_seq, go_cond, go_exit, go_xcode, go_region, go_ops_nil, go_ops, okG_some, cwD_bool, gw_false, guardG, opG, inB, sval, stake, eats, eaters, get, St.taken, put_slot, dem_none, ↓reduceIte, Nat.reduceEqDiff, Nat.reduceLT, decide_true, decide_false, List.filterMap_cons, List.filterMap_nil, Option.map_some, List.contains_cons, List.contains_nil, Bool.or_false, Nat.reduceBEq, Bool.false_eq_true, dbin, dIntBin, row9, frz9, frzOf_def, frz_nil, Bool.and_false]
    | (refine drW_intro (by kernel_rfl) ?_)
    | (refine gw_intro (fun h => ?_) (fun h => ?_) <;> (try simp only [beq_true, beq_false, Bool.not_eq_eq_eq_not, Bool.not_true, Bool.not_false, Bool.not_not, decide_eq_true_eq, decide_eq_false_iff_not, ge_iff_le, gt_iff_lt] at h)))
              refine hx _ _ ?_
              repeat' (first
    | simp only [*, go_seq, go_cond, go_skip, go_retc, go_xblk, go_region, go_ops_nil, go_ops, okG_some, cwD_bool, gw_false, guardG, opG, inB, sval, stake, eats, eaters, get, St.taken, put_slot, put_room, put_box, dem_none, dem_slot, dem_box, dem_room, endQ, endR, endV, rvars, rvar, room1, ↓reduceIte, Nat.reduceEqDiff, Nat.reduceLT, decide_true, decide_false, List.filterMap_cons, List.filterMap_nil, Option.map_some, List.contains_cons, List.contains_nil, List.map_cons, List.map_nil, beq_self_eq_true, Bool.or_false, Bool.or_true, Nat.reduceBEq, Bool.false_eq_true, dbin, dIntBin, row9, frz9, frzOf_def, frz_nil, pureB, leaf, leafN, List.take_nil, List.range_zero, Bool.and_false, and_self]
    | (refine drW_intro (by kernel_rfl) ?_)
    | (refine gw_intro (fun h => ?_) (fun h => ?_) <;> (try simp only [beq_true, beq_false, Bool.not_eq_eq_eq_not, Bool.not_true, Bool.not_false, Bool.not_not, decide_eq_true_eq, decide_eq_false_iff_not, ge_iff_le, gt_iff_lt] at h)))
              skip
        · subst hb
          have hlt : ¬ ((i + 1 : Nat) : Int) < (i : Int) := by omega
          have hm : ¬ (i : Int) < (a : Int) := by omega
          clear hai hai' hK'
          repeat' (first
    | simp only [*, go_nil, go_seq, go_cond, go_exit, go_xcode, go_region, go_ops_nil, go_ops, okG_some, cwD_bool, gw_false, guardG, opG, inB, sval, stake, eats, eaters, get, St.taken, put_slot, dem_none, ↓reduceIte, Nat.reduceEqDiff, Nat.reduceLT, decide_true, decide_false, List.filterMap_cons, List.filterMap_nil, Option.map_some, List.contains_cons, List.contains_nil, Bool.or_false, Nat.reduceBEq, Bool.false_eq_true, dbin, dIntBin, row9, frz9, frzOf_def, frz_nil, Bool.and_false]
    | (refine drW_intro (by kernel_rfl) ?_)
    | (refine gw_intro (fun h => ?_) (fun h => ?_) <;> (try simp only [beq_true, beq_false, Bool.not_eq_eq_eq_not, Bool.not_true, Bool.not_false, Bool.not_not, decide_eq_true_eq, decide_eq_false_iff_not, ge_iff_le, gt_iff_lt] at h)))
          refine hx _ _ ?_
          repeat' (first
    | simp only [*, go_seq, go_cond, go_skip, go_retc, go_xblk, go_region, go_ops_nil, go_ops, okG_some, cwD_bool, gw_false, guardG, opG, inB, sval, stake, eats, eaters, get, St.taken, put_slot, put_room, put_box, dem_none, dem_slot, dem_box, dem_room, endQ, endR, endV, rvars, rvar, room1, ↓reduceIte, Nat.reduceEqDiff, Nat.reduceLT, decide_true, decide_false, List.filterMap_cons, List.filterMap_nil, Option.map_some, List.contains_cons, List.contains_nil, List.map_cons, List.map_nil, beq_self_eq_true, Bool.or_false, Bool.or_true, Nat.reduceBEq, Bool.false_eq_true, dbin, dIntBin, row9, frz9, frzOf_def, frz_nil, pureB, leaf, leafN, List.take_nil, List.range_zero, Bool.and_false, and_self]
    | (refine drW_intro (by kernel_rfl) ?_)
    | (refine gw_intro (fun h => ?_) (fun h => ?_) <;> (try simp only [beq_true, beq_false, Bool.not_eq_eq_eq_not, Bool.not_true, Bool.not_false, Bool.not_not, decide_eq_true_eq, decide_eq_false_iff_not, ge_iff_le, gt_iff_lt] at h)))
          skip
    · have e1 : fr = (a : Int) := by omega
      subst e1
      have e2 : to = E := by omega
      clear hEq hmx
      subst e2
      repeat' (first
    | simp only [*, go_seq, go_cond, go_block, go_skip, go_loop, go_region, go_ops_nil, go_ops, okG_some, cwD_bool, gw_false, guardG, opG, isPtr, inB, sval, stake, eats, eaters, get, cval, cval1, croom, St.taken, put_slot, put_room, dem_none, entry_slot, ↓reduceIte, Nat.reduceEqDiff, Nat.reduceLT, reduceCtorEq, decide_true, decide_false, List.filterMap_cons, List.filterMap_nil, Option.map_some, List.getD_cons_zero, List.getD_cons_succ, List.contains_cons, List.contains_nil, List.map_cons, List.map_nil, Bool.or_false, Nat.reduceBEq, Bool.false_eq_true, dbin, dIntBin, row9, frz9, frzOf_def, frz_nil, List.length_nil, Bool.and_false, gt_iff_lt, len24]
    | (refine drW_intro (by kernel_rfl) ?_)
    | (refine gw_intro (fun h => ?_) (fun h => ?_) <;> (try simp only [beq_true, beq_false, Bool.not_eq_eq_eq_not, Bool.not_true, Bool.not_false, Bool.not_not, decide_eq_true_eq, decide_eq_false_iff_not, ge_iff_le, gt_iff_lt] at h)))
      refine loopH (fun st => ∃ i : Nat, st.slot 0 = .list (ts.map Tk.d) ∧ st.slot 1 = .int .i64 (a : Int) ∧ Hd (a ≤ i) ∧ ((st.slot 8 = .int .i64 i ∧ st.slot 2 = .int .i64 to ∧ st.room 2 = [] ∧ Hd (endF (kd ts) (to).toNat i = b) ∧ (i = a ∨ (i : Int) ≤ to)) ∨
        (st.slot 8 = .int .i64 (i + 1 : Nat) ∧ st.slot 2 = .int .i64 i ∧ st.room 2 = [] ∧ i = b)) ∧ st.room 1 = []) (fun st => ts.length - slotI st 8) ?_ ?_
      · refine ⟨a, ?_, ?_, Hd.mk (Nat.le_refl _), .inl ⟨?_, ?_, ?_, hK', .inl rfl⟩, ?_⟩
        all_goals simp only [*, put_slot, put_room, dem_slot, dem_room, entry_slot, entry_room, ↓reduceIte, Nat.reduceEqDiff, reduceCtorEq, List.getD_cons_zero, List.getD_cons_succ]
        all_goals rfl
      · rintro st K ⟨i, h0, h1, hai, hinv, hr1⟩ hn hx hr
        have hai' : a ≤ i := hai
        rcases hinv with ⟨h7, h2, hr2, hb, hc⟩ | ⟨h7, h2, hr2, hb⟩
        · by_cases hlt : (i : Int) < to
          · have hlt2 : (i : Int) < ts.length := by omega
            have hg := tk_at ts i (by omega)
            have hw1 := wrapS i (by omega)
            have hb' : endF (kd ts) (to).toNat i = b := hb
            by_cases hk : kd ts i = 0
            · have bk : (kd ts i == 0) = true := beq_iff_eq.2 hk
              have T := Hd.mk (show i = b by rw [endF_stop (.inr hk)] at hb'; exact hb')
              clear hk hb hc hb' hK'
              repeat' (first
    | simp only [*, go_nil, go_seq, go_cond, go_block, go_blk, go_skip, go_region, go_ops_nil, go_ops, okG_some, cwD_bool, gw_true, guardG, opG, inB, sval, stake, eats, eaters, get, cval, cval1, St.taken, put_slot, put_room, dem_none, dem_slot, ↓reduceIte, Nat.reduceEqDiff, Nat.reduceLT, reduceCtorEq, decide_true, List.filterMap_cons, List.filterMap_nil, Option.map_some, List.getElem?_cons_zero, List.contains_cons, List.contains_nil, beq_self_eq_true, Bool.or_false, Bool.and_true, Nat.reduceBEq, Bool.false_eq_true, dbin, dIntBin, row9, frz9, frzOf_def, frz_nil, List.length_nil, List.length_cons, dcells, Nat.zero_add, Nat.reduceAdd, Bool.and_false, Int.natCast_nonneg, Int.toNat_natCast, and_self, Nat.add_zero, dp3, fa56_0, ia24]
    | (refine drW_intro (by kernel_rfl) ?_)
    | (refine gw_intro (fun h => ?_) (fun h => ?_) <;> (try simp only [beq_true, beq_false, Bool.not_eq_eq_eq_not, Bool.not_true, Bool.not_false, Bool.not_not, decide_eq_true_eq, decide_eq_false_iff_not, ge_iff_le, gt_iff_lt] at h)))
              refine hn _ ⟨i, ?_, ?_, hai, .inr ⟨?_, ?_, ?_, T⟩, ?_⟩ ?_
              · simp only [*, put_slot, dem_slot, ↓reduceIte, reduceCtorEq]
              · simp only [*, put_slot, dem_slot, ↓reduceIte, Nat.reduceEqDiff]
              · simp only [*, put_slot, ↓reduceIte]
              · simp only [*, put_slot, dem_slot, ↓reduceIte, Nat.reduceEqDiff]
              · simp only [*, put_room, dem_room, ↓reduceIte, Nat.reduceEqDiff]
              · simp only [*, put_room, dem_room, ↓reduceIte, Nat.reduceEqDiff]
              · simp only [slotI, *, put_slot, ↓reduceIte, Int.toNat_natCast]
                omega
            · have bk : (kd ts i == 0) = false := beq_eq_false_iff_ne.2 hk
              have T := Hd.mk (show endF (kd ts) (to).toNat (i + 1) = b by rw [← endF_step (by omega) hk]; exact hb')
              clear hk hb hc hb' hK'
              repeat' (first
    | simp only [*, go_nil, go_seq, go_cond, go_block, go_blk, go_skip, go_region, go_ops_nil, go_ops, okG_some, cwD_bool, gw_true, gw_false, guardG, opG, inB, sval, stake, eats, eaters, get, cval, cval1, St.taken, put_slot, put_room, dem_none, ↓reduceIte, Nat.reduceEqDiff, Nat.reduceLT, reduceCtorEq, decide_true, List.filterMap_cons, List.filterMap_nil, Option.map_some, List.getElem?_cons_zero, List.contains_cons, List.contains_nil, beq_self_eq_true, Bool.or_false, Bool.and_true, Nat.reduceBEq, Bool.false_eq_true, dbin, dIntBin, row9, frz9, frzOf_def, frz_nil, List.length_nil, List.length_cons, dcells, Nat.zero_add, Nat.reduceAdd, Bool.and_false, Int.natCast_nonneg, Int.toNat_natCast, and_self, Nat.add_zero, dp3, fa56_0, ia24]
    | (refine drW_intro (by kernel_rfl) ?_)
    | (refine gw_intro (fun h => ?_) (fun h => ?_) <;> (try simp only [beq_true, beq_false, Bool.not_eq_eq_eq_not, Bool.not_true, Bool.not_false, Bool.not_not, decide_eq_true_eq, decide_eq_false_iff_not, ge_iff_le, gt_iff_lt] at h)))
              refine hn _ ⟨i + 1, ?_, ?_, Hd.mk (Nat.le_succ_of_le hai'), .inl ⟨?_, ?_, ?_, T, .inr (by omega)⟩, ?_⟩ ?_
              · simp only [*, put_slot, dem_slot, ↓reduceIte, reduceCtorEq]
              · simp only [*, put_slot, dem_slot, ↓reduceIte, Nat.reduceEqDiff]
              · simp only [*, put_slot, ↓reduceIte]
              · simp only [*, put_slot, dem_slot, ↓reduceIte, Nat.reduceEqDiff]
              · simp only [*, put_room, dem_room, ↓reduceIte, Nat.reduceEqDiff]
              · simp only [*, put_room, dem_room, ↓reduceIte, Nat.reduceEqDiff]
              · simp only [slotI, *, put_slot, ↓reduceIte, Int.toNat_natCast]
                omega
          · have hb' : endF (kd ts) (to).toNat i = b := hb
            rw [endF_stop (.inl (by omega))] at hb'
            have hge1 : a ≤ b := hge
            by_cases hm : to < (a : Int)
            · have hbb : b = a := by omega
              clear hb hb' hc hai hai' hK' hge hge1
              repeat' (first
    | simp only [*, go_nil, go_seq, go_cond, go_exit, go_xcode, go_region, go_ops_nil, go_ops, okG_some, cwD_bool, gw_false, guardG, opG, inB, sval, stake, eats, eaters, get, St.taken, put_slot, dem_none, ↓reduceIte, Nat.reduceEqDiff, Nat.reduceLT, decide_true, decide_false, List.filterMap_cons, List.filterMap_nil, Option.map_some, List.contains_cons, List.contains_nil, Bool.or_false, Nat.reduceBEq, Bool.false_eq_true, dbin, dIntBin, row9, frz9, frzOf_def, frz_nil, Bool.and_false]
    | (refine drW_intro (by kernel_rfl) ?_)
    | (refine gw_intro (fun h => ?_) (fun h => ?_) <;> (try simp only [beq_true, beq_false, Bool.not_eq_eq_eq_not, Bool.not_true, Bool.not_false, Bool.not_not, decide_eq_true_eq, decide_eq_false_iff_not, ge_iff_le, gt_iff_lt] at h)))
              refine hx _ _ ?_
              repeat' (first
    | simp only [*, go_seq, go_cond, go_retc, go_xblk, go_region, go_ops_nil, go_ops, okG_some, cwD_bool, gw_true, guardG, opG, inB, sval, stake, eats, eaters, get, St.taken, put_slot, put_room, put_box, dem_none, dem_slot, dem_box, dem_room, endQ, endR, endV, rvars, rvar, room1, ↓reduceIte, Nat.reduceEqDiff, Nat.reduceLT, decide_true, List.filterMap_cons, List.filterMap_nil, Option.map_some, List.contains_cons, List.contains_nil, List.map_cons, List.map_nil, beq_self_eq_true, Bool.or_false, Bool.or_true, Nat.reduceBEq, Bool.false_eq_true, dbin, dIntBin, row9, frz9, frzOf_def, frz_nil, pureB, leaf, leafN, List.take_nil, List.range_zero, Bool.and_false, and_self]
    | (refine drW_intro (by kernel_rfl) ?_)
    | (refine gw_intro (fun h => ?_) (fun h => ?_) <;> (try simp only [beq_true, beq_false, Bool.not_eq_eq_eq_not, Bool.not_true, Bool.not_false, Bool.not_not, decide_eq_true_eq, decide_eq_false_iff_not, ge_iff_le, gt_iff_lt] at h)))
              skip
            · have hbb : (b : Int) = to := by omega
              clear hb hb' hc hai hai' hK' hge hge1
              repeat' (first
    | simp only [*, go_nil, go_seq, go_cond, go_exit, go_xcode, go_region, go_ops_nil, go_ops, okG_some, cwD_bool, gw_false, guardG, opG, inB, sval, stake, eats, eaters, get, St.taken, put_slot, dem_none, ↓reduceIte, Nat.reduceEqDiff, Nat.reduceLT, decide_true, decide_false, List.filterMap_cons, List.filterMap_nil, Option.map_some, List.contains_cons, List.contains_nil, Bool.or_false, Nat.reduceBEq, Bool.false_eq_true, dbin, dIntBin, row9, frz9, frzOf_def, frz_nil, Bool.and_false]
    | (refine drW_intro (by kernel_rfl) ?_)
    | (refine gw_intro (fun h => ?_) (fun h => ?_) <;> (try simp only [beq_true, beq_false, Bool.not_eq_eq_eq_not, Bool.not_true, Bool.not_false, Bool.not_not, decide_eq_true_eq, decide_eq_false_iff_not, ge_iff_le, gt_iff_lt] at h)))
              refine hx _ _ ?_
              repeat' (first
    | simp only [*, go_seq, go_cond, go_skip, go_retc, go_xblk, go_region, go_ops_nil, go_ops, okG_some, cwD_bool, gw_false, guardG, opG, inB, sval, stake, eats, eaters, get, St.taken, put_slot, put_room, put_box, dem_none, dem_slot, dem_box, dem_room, endQ, endR, endV, rvars, rvar, room1, ↓reduceIte, Nat.reduceEqDiff, Nat.reduceLT, decide_true, decide_false, List.filterMap_cons, List.filterMap_nil, Option.map_some, List.contains_cons, List.contains_nil, List.map_cons, List.map_nil, beq_self_eq_true, Bool.or_false, Bool.or_true, Nat.reduceBEq, Bool.false_eq_true, dbin, dIntBin, row9, frz9, frzOf_def, frz_nil, pureB, leaf, leafN, List.take_nil, List.range_zero, Bool.and_false, and_self]
    | (refine drW_intro (by kernel_rfl) ?_)
    | (refine gw_intro (fun h => ?_) (fun h => ?_) <;> (try simp only [beq_true, beq_false, Bool.not_eq_eq_eq_not, Bool.not_true, Bool.not_false, Bool.not_not, decide_eq_true_eq, decide_eq_false_iff_not, ge_iff_le, gt_iff_lt] at h)))
              skip
        · subst hb
          have hlt : ¬ ((i + 1 : Nat) : Int) < (i : Int) := by omega
          have hm : ¬ (i : Int) < (a : Int) := by omega
          clear hai hai' hK'
          repeat' (first
    | simp only [*, go_nil, go_seq, go_cond, go_exit, go_xcode, go_region, go_ops_nil, go_ops, okG_some, cwD_bool, gw_false, guardG, opG, inB, sval, stake, eats, eaters, get, St.taken, put_slot, dem_none, ↓reduceIte, Nat.reduceEqDiff, Nat.reduceLT, decide_true, decide_false, List.filterMap_cons, List.filterMap_nil, Option.map_some, List.contains_cons, List.contains_nil, Bool.or_false, Nat.reduceBEq, Bool.false_eq_true, dbin, dIntBin, row9, frz9, frzOf_def, frz_nil, Bool.and_false]
    | (refine drW_intro (by kernel_rfl) ?_)
    | (refine gw_intro (fun h => ?_) (fun h => ?_) <;> (try simp only [beq_true, beq_false, Bool.not_eq_eq_eq_not, Bool.not_true, Bool.not_false, Bool.not_not, decide_eq_true_eq, decide_eq_false_iff_not, ge_iff_le, gt_iff_lt] at h)))
          refine hx _ _ ?_
          repeat' (first
    | simp only [*, go_seq, go_cond, go_skip, go_retc, go_xblk, go_region, go_ops_nil, go_ops, okG_some, cwD_bool, gw_false, guardG, opG, inB, sval, stake, eats, eaters, get, St.taken, put_slot, put_room, put_box, dem_none, dem_slot, dem_box, dem_room, endQ, endR, endV, rvars, rvar, room1, ↓reduceIte, Nat.reduceEqDiff, Nat.reduceLT, decide_true, decide_false, List.filterMap_cons, List.filterMap_nil, Option.map_some, List.contains_cons, List.contains_nil, List.map_cons, List.map_nil, beq_self_eq_true, Bool.or_false, Bool.or_true, Nat.reduceBEq, Bool.false_eq_true, dbin, dIntBin, row9, frz9, frzOf_def, frz_nil, pureB, leaf, leafN, List.take_nil, List.range_zero, Bool.and_false, and_self]
    | (refine drW_intro (by kernel_rfl) ?_)
    | (refine gw_intro (fun h => ?_) (fun h => ?_) <;> (try simp only [beq_true, beq_false, Bool.not_eq_eq_eq_not, Bool.not_true, Bool.not_false, Bool.not_not, decide_eq_true_eq, decide_eq_false_iff_not, ge_iff_le, gt_iff_lt] at h)))
          skip
-- END cut_L
end Go.Av
/- Chapter 19: a reader of tokens: what stands here, blanks, values. -/
set_option linter.unusedSimpArgs false
set_option linter.unusedVariables false
set_option linter.unusedSectionVars false
set_option maxRecDepth 100000
namespace Go.Av
open Go.Proofs Go.Proofs.Ytaldmffahmomoaa Go.RowKit
structure RO (ts : List Tk) (a e : Nat) : Prop where
  len : ts.length ≤ 1000000
  fit : e ≤ ts.length ∨ e ≤ a
def isB (ts : List Tk) (a e : Nat) (k : Int) : Bool := decide (a < e) && decide (kd ts a = k)
set_option maxHeartbeats 8000000 in
theorem ends_L (ts : List Tk) (a e : Nat) : callL Try.prog ext9 27 [.ptr 1000000 0 0] [(⟨0, [.list (ts.map Tk.d), .int .i64 ((a : Nat) : Int), .int .i64 ((e : Nat) : Int)]⟩ : Bx)] = some (.bool (decide (e ≤ a)), [.no], [(⟨0, [.list (ts.map Tk.d), .int .i64 ((a : Nat) : Int), .int .i64 ((e : Nat) : Int)]⟩ : Bx)]) := by
  refine callK (m := 12) (res := [2]) (rs := [.tmp 2]) rfl Try.func27 rfl rfl rfl rfl rfl ?_
  by_cases h : e ≤ a
  · have h1 : (a : Int) ≥ e := by omega
    repeat' (first
    | simp only [*, go_seq, go_retc, go_region, go_draw, go_ops_nil, go_ops, go_dops1, go_dops, okG_some, guardG, opG, opD, isStore, inB, sval, stake, eats, eaters, get, cval, cval1, croom, St.taken, put_slot, put_room, put_box, dem_none, dem_box, entry_slot, entry_box, endQ, endR, endV, rvars, rvar, room1, ↓reduceIte, Nat.reduceEqDiff, Nat.reduceLT, reduceCtorEq, decide_true, List.filterMap_cons, List.filterMap_nil, Option.map_some, Option.bind_none, List.getElem?_cons_zero, List.getElem?_cons_succ, List.getD_cons_zero, List.contains_cons, List.contains_nil, beq_self_eq_true, beq_iff_eq, Bool.or_false, Nat.reduceBEq, Bool.false_eq_true, dbin, dIntBin, row9, frz9, frzOf_def, frz_nil, allocKey, isAlloc, loadsOwn, pureB, leaf, leafN, List.take_nil, List.length_nil, List.length_cons, List.find?_cons, List.find?_nil, Nat.zero_add, Bool.and_false, Option.getD_some, and_self, ge_iff_le, dp3, fp51_1, fp51_2, lst1, pid0, Nat.le_refl, Nat.sub_self, Option.getD_some]
    | (refine drW_intro (by kernel_rfl) ?_)
    | (refine gw_intro (fun h => ?_) (fun h => ?_) <;> (try simp only [beq_true, beq_false, Bool.not_eq_eq_eq_not, Bool.not_true, Bool.not_false, Bool.not_not, decide_eq_true_eq, decide_eq_false_iff_not, ge_iff_le, gt_iff_lt] at h)))
  · have h1 : ¬ (a : Int) ≥ e := by omega
    repeat' (first
    | simp only [*, go_seq, go_retc, go_region, go_draw, go_ops_nil, go_ops, go_dops1, go_dops, okG_some, guardG, opG, opD, isStore, inB, sval, stake, eats, eaters, get, cval, cval1, croom, St.taken, put_slot, put_room, put_box, dem_none, dem_box, entry_slot, entry_box, endQ, endR, endV, rvars, rvar, room1, ↓reduceIte, Nat.reduceEqDiff, Nat.reduceLT, reduceCtorEq, decide_true, decide_false, List.filterMap_cons, List.filterMap_nil, Option.map_some, Option.bind_none, List.getElem?_cons_zero, List.getElem?_cons_succ, List.getD_cons_zero, List.contains_cons, List.contains_nil, beq_self_eq_true, beq_iff_eq, Bool.or_false, Nat.reduceBEq, Bool.false_eq_true, dbin, dIntBin, row9, frz9, frzOf_def, frz_nil, allocKey, isAlloc, loadsOwn, pureB, leaf, leafN, List.take_nil, List.length_nil, List.length_cons, List.find?_cons, List.find?_nil, Nat.zero_add, Bool.and_false, Option.getD_some, and_self, ge_iff_le, dp3, fp51_1, fp51_2, lst1, pid0, Nat.le_refl, Nat.sub_self, Option.getD_some]
    | (refine drW_intro (by kernel_rfl) ?_)
    | (refine gw_intro (fun h => ?_) (fun h => ?_) <;> (try simp only [beq_true, beq_false, Bool.not_eq_eq_eq_not, Bool.not_true, Bool.not_false, Bool.not_not, decide_eq_true_eq, decide_eq_false_iff_not, ge_iff_le, gt_iff_lt] at h)))
theorem all_tk (ts : List Tk) : (ts.map Tk.d).all isTkD = true := by
  rw [List.all_map, List.all_eq_true]
  intro t _
  rfl
theorem isK_L {ts : List Tk} {a e : Nat} (h : RO ts a e) (k : Int) : callL Try.prog ext9 28 [.ptr 1000000 0 0, .int .i64 k] [(⟨0, [.list (ts.map Tk.d), .int .i64 ((a : Nat) : Int), .int .i64 ((e : Nat) : Int)]⟩ : Bx)] = some (.bool (isB ts a e k), [], [(⟨0, [.list (ts.map Tk.d), .int .i64 ((a : Nat) : Int), .int .i64 ((e : Nat) : Int)]⟩ : Bx)]) := by
  refine callL_ext ?_
  simp only [ext9, ext9a]
  have hf := h.fit
  rw [if_pos ⟨by omega, by rw [List.length_map]; omega, all_tk ts⟩]
  have e1 : isF (ts.map Tk.d) (a : Nat) (e : Nat) k = isB ts a e k := by
    unfold isF isB
    rw [Int.toNat_natCast, tkKind_at]
    simp
  rw [e1]
theorem value_L {ts : List Tk} {a e : Nat} (h : RO ts a e) (hae : a < e) : callL Try.prog ext9 38 [.ptr 1000000 0 0] [(⟨0, [.list (ts.map Tk.d), .int .i64 ((a : Nat) : Int), .int .i64 ((e : Nat) : Int)]⟩ : Bx)] = some (.bool (closedF (kd ts) e a), [], [(⟨0, [.list (ts.map Tk.d), .int .i64 (((behindF (kd ts) e a).1 : Nat) : Int), .int .i64 ((e : Nat) : Int)]⟩ : Bx)]) := by
  refine callL_ext ?_
  simp only [ext9, ext9a]
  have hf := h.fit
  have hl := h.len
  rw [if_pos ⟨by omega, by rw [List.length_map]; omega, by rw [List.length_map]; omega, all_tk ts⟩]
  have e0 : (fun i => tkKind ((ts.map Tk.d).getD i .bad)) = kd ts := funext (tkKind_at ts)
  have e1 : valueN (kd ts) e (e + 1 - a) a [] = ((behindF (kd ts) e a).1, closedF (kd ts) e a) := value_behind hae
  rw [e0, Int.toNat_natCast, Int.toNat_natCast, e1]
def spF (ks : Nat → Int) (e a : Nat) : Nat := runF (fun i => decide (i < e) && decide (ks i = 13)) e a
theorem spF_ge (ks : Nat → Int) (e a : Nat) : a ≤ spF ks e a ∧ (a ≤ e → spF ks e a ≤ e) := runF_pos
theorem spF_step {ts : List Tk} {e a : Nat} (h : isB ts a e 13 = true) : spF (kd ts) e a = spF (kd ts) e (a + 1) :=
  runF_step (fun i hi => by simp [Nat.not_lt.2 hi]) h
theorem spF_stop {ts : List Tk} {e a : Nat} (h : isB ts a e 13 = false) : spF (kd ts) e a = a := runF_stop h
theorem isB_lt {ts : List Tk} {e a : Nat} {k : Int} (h : isB ts a e k = true) : a < e ∧ kd ts a = k := by
  unfold isB at h
  simpa using h
theorem RO.next {ts : List Tk} {a e : Nat} (h : RO ts a e) (a' : Nat) (ha : a ≤ a') : RO ts a' e := ⟨h.len, by have := h.fit; omega⟩
set_option maxHeartbeats 8000000 in
theorem blanks_L {ts : List Tk} {a e : Nat} (h : RO ts a e) : callL Try.prog ext9 36 [.ptr 1000000 0 0] [(⟨0, [.list (ts.map Tk.d), .int .i64 ((a : Nat) : Int), .int .i64 ((e : Nat) : Int)]⟩ : Bx)] = some (.tuple [], [], [(⟨0, [.list (ts.map Tk.d), .int .i64 ((spF (kd ts) e a : Nat) : Int), .int .i64 ((e : Nat) : Int)]⟩ : Bx)]) := by
  refine callK (m := 11) (res := []) (rs := []) rfl Try.func36 rfl rfl rfl rfl rfl ?_
  have h' := Hd.mk h
  have hl := h.len
  clear h
  repeat' (first
    | simp only [*, go_block, go_loop, List.length_nil, List.length_cons, Nat.zero_add]
    | (refine drW_intro (by kernel_rfl) ?_)
    | (refine gw_intro (fun h => ?_) (fun h => ?_) <;> (try simp only [beq_true, beq_false, Bool.not_eq_eq_eq_not, Bool.not_true, Bool.not_false, Bool.not_not, decide_eq_true_eq, decide_eq_false_iff_not, ge_iff_le, gt_iff_lt] at h)))
  refine loopH (fun st => ∃ i : Nat, Hd (a ≤ i) ∧ st.slot 0 = .ptr 1000000 0 0 ∧ st.box 1000000 = some (⟨0, [.list (ts.map Tk.d), .int .i64 ((i : Nat) : Int), .int .i64 ((e : Nat) : Int)]⟩ : Bx) ∧ Hd (spF (kd ts) e i = spF (kd ts) e a)) (fun st => match st.box 1000000 with | some ⟨_, [_, .int _ n, _]⟩ => (ts.length + a + 1) - n.toNat | _ => 0) ?_ ?_
  · refine ⟨a, Hd.mk (Nat.le_refl _), ?_, ?_, Hd.mk rfl⟩
    all_goals simp only [*, entry_slot, entry_box, ↓reduceIte, List.getElem?_cons_zero, List.getD_cons_zero, Nat.le_refl, Nat.sub_self]
  · rintro st K ⟨i, hai, h0, hbx, hinv⟩ hn hx hr
    have hai' : a ≤ i := hai
    have hro : RO ts i e := RO.next h' i hai'
    have hIs := isK_L hro 13
    have hinv' : spF (kd ts) e i = spF (kd ts) e a := hinv
    cases hb : isB ts i e 13 with
    | true =>
      rw [hb] at hIs
      have hlt := (isB_lt hb).1
      have hf := hro.fit
      have hw := wrapS i (by omega)
      have T := Hd.mk (show spF (kd ts) e (i + 1) = spF (kd ts) e a by rw [← spF_step hb]; exact hinv')
      have hm : i < ts.length + a + 1 := by omega
      clear hinv hinv' hro hb h' hf
      repeat' (first
    | simp only [*, go_nil, go_seq, go_cond, go_block, go_blk, go_skip, go_region, go_ops_nil, go_ops, okG_some, okB_some, cwD_bool, gw_true, guardG, opG, isPtr, inB, sval, stake, eats, eaters, get, cval, cval1, St.taken, put_slot, put_box, put_none, dem_none, setBox_slot, setBox_box, ↓reduceIte, Nat.reduceEqDiff, Nat.reduceLT, Nat.reduceLeDiff, reduceCtorEq, decide_true, List.filterMap_cons, List.filterMap_nil, Option.map_some, List.getElem?_cons_zero, List.getElem?_cons_succ, List.contains_nil, List.map_cons, List.map_nil, Bool.and_true, Nat.reduceBEq, Bool.false_eq_true, dbin, dIntBin, row9, frz9, frzOf_def, frz_nil, pureB, leaf, leafN, List.all_cons, List.all_nil, List.nil_append, List.cons_append, List.length_nil, List.length_cons, List.take_zero, List.drop_zero, List.take_succ_cons, List.drop_succ_cons, dcells, Nat.zero_add, Nat.reduceAdd, stepBox, Bool.and_false, and_self, ty3, dp3, fp51_1, pid0, stepPtr]
    | (refine drW_intro (by kernel_rfl) ?_)
    | (refine gw_intro (fun h => ?_) (fun h => ?_) <;> (try simp only [beq_true, beq_false, Bool.not_eq_eq_eq_not, Bool.not_true, Bool.not_false, Bool.not_not, decide_eq_true_eq, decide_eq_false_iff_not, ge_iff_le, gt_iff_lt] at h)))
      refine hn _ ⟨i + 1, Hd.mk (Nat.le_succ_of_le hai'), ?_, ?_, T⟩ ?_
      · simp only [*, put_slot, setBox_slot, ↓reduceIte, reduceCtorEq]
      · simp only [*, setBox_box, ↓reduceIte]
      · simp only [*, setBox_box, ↓reduceIte]
        omega
    | false =>
      rw [hb] at hIs
      rw [spF_stop hb] at hinv'
      have hfin := hinv'.symm
      clear hinv hinv' hro hb h' hai hai'
      repeat' (first
    | simp only [*, go_nil, go_seq, go_cond, go_exit, go_xcode, go_region, go_ops_nil, go_ops, okG_some, okB_some, cwD_bool, gw_false, guardG, opG, isPtr, inB, sval, stake, eats, eaters, get, cval, cval1, St.taken, put_slot, put_box, dem_none, ↓reduceIte, Nat.reduceLT, decide_true, List.filterMap_cons, List.filterMap_nil, List.contains_nil, List.map_cons, List.map_nil, Bool.and_true, Nat.reduceBEq, Bool.false_eq_true, row9, frz9, frzOf_def, frz_nil, pureB, leaf, leafN, List.all_cons, List.all_nil, Bool.and_false, and_self, pid0, stepPtr]
    | (refine drW_intro (by kernel_rfl) ?_)
    | (refine gw_intro (fun h => ?_) (fun h => ?_) <;> (try simp only [beq_true, beq_false, Bool.not_eq_eq_eq_not, Bool.not_true, Bool.not_false, Bool.not_not, decide_eq_true_eq, decide_eq_false_iff_not, ge_iff_le, gt_iff_lt] at h)))
      refine hx _ _ ?_
      repeat' (first
    | simp only [*, go_nil, go_xblk, put_box, setBox_box, endQ, endR, endV, rvars, ↓reduceIte, List.map_nil, Option.getD_some, and_self, lst1, pid0, Option.getD_some]
    | (refine drW_intro (by kernel_rfl) ?_)
    | (refine gw_intro (fun h => ?_) (fun h => ?_) <;> (try simp only [beq_true, beq_false, Bool.not_eq_eq_eq_not, Bool.not_true, Bool.not_false, Bool.not_not, decide_eq_true_eq, decide_eq_false_iff_not, ge_iff_le, gt_iff_lt] at h)))
end Go.Av
/- Chapter 19: a reader of tokens: up to a token of some kinds; blocks. -/
set_option linter.unusedSimpArgs false
set_option linter.unusedVariables false
set_option linter.unusedSectionVars false
set_option maxRecDepth 100000
namespace Go.Av
open Go.Proofs Go.Proofs.Ytaldmffahmomoaa Go.RowKit
def inK (kinds : List Int) (k : Int) : Bool := kinds.contains k
theorem inK_of {kinds : List Int} {j : Nat} (hj : j < kinds.length) : inK kinds (kinds.getD j 0) = true := by
  unfold inK
  rw [List.contains_iff_mem, List.getD_eq_getElem?_getD, List.getElem?_eq_getElem hj]
  exact List.getElem_mem hj
theorem inK_no {kinds : List Int} {k : Int} (h : ∀ j, j < kinds.length → kinds.getD j 0 ≠ k) : inK kinds k = false := by
  unfold inK
  cases hc : kinds.contains k with
  | false => rfl
  | true =>
    rw [List.contains_iff_mem] at hc
    obtain ⟨j, hj, e⟩ := List.getElem_of_mem hc
    exact absurd (by rw [List.getD_eq_getElem?_getD, List.getElem?_eq_getElem hj]; exact e) (h j hj)
set_option maxHeartbeats 8000000 in
theorem until_L {ts : List Tk} {a e : Nat} (h : RO ts a e) (kinds : List Int) (hkl : kinds.length ≤ 100) : callL Try.prog ext9 30 [.ptr 1000000 0 0, LI kinds] [(⟨0, [.list (ts.map Tk.d), .int .i64 ((a : Nat) : Int), .int .i64 ((e : Nat) : Int)]⟩ : Bx)] =
    some (.tuple [], [], [(⟨0, [.list (ts.map Tk.d), .int .i64 ((untilF (kd ts) e (inK kinds) a : Nat) : Int), .int .i64 ((e : Nat) : Int)]⟩ : Bx)]) := by
  refine callK (m := 21) (res := []) (rs := []) rfl Try.func30 rfl rfl rfl rfl rfl ?_
  have h' := Hd.mk h
  have hl := h.len
  have lK := LIlen kinds
  clear h
  repeat' (first
    | simp only [*, go_block, go_loop, List.length_nil, List.length_cons, Nat.zero_add]
    | (refine drW_intro (by kernel_rfl) ?_)
    | (refine gw_intro (fun h => ?_) (fun h => ?_) <;> (try simp only [beq_true, beq_false, Bool.not_eq_eq_eq_not, Bool.not_true, Bool.not_false, Bool.not_not, decide_eq_true_eq, decide_eq_false_iff_not, ge_iff_le, gt_iff_lt] at h)))
  refine loopH (fun st => ∃ i : Nat, Hd (a ≤ i) ∧ st.slot 0 = .ptr 1000000 0 0 ∧ st.slot 1 = LI kinds ∧ st.box 1000000 = some (⟨0, [.list (ts.map Tk.d), .int .i64 ((i : Nat) : Int), .int .i64 ((e : Nat) : Int)]⟩ : Bx) ∧ Hd (untilF (kd ts) e (inK kinds) i = untilF (kd ts) e (inK kinds) a))
    (fun st => match st.box 1000000 with | some ⟨_, [_, .int _ n, _]⟩ => (ts.length + a + 1) - n.toNat | _ => 0) ?_ ?_
  · refine ⟨a, Hd.mk (Nat.le_refl _), ?_, ?_, ?_, Hd.mk rfl⟩
    all_goals simp only [*, entry_slot, entry_box, ↓reduceIte, List.getElem?_cons_zero, List.getD_cons_zero, List.getD_cons_succ, Nat.le_refl, Nat.sub_self]
  · rintro st K ⟨i, hai, h0, h1, hbx, hinv⟩ hn hx hr
    have hai' : a ≤ i := hai
    have hro : RO ts i e := RO.next h' i hai'
    have hE := ends_L ts i e
    have hinv' : untilF (kd ts) e (inK kinds) i = untilF (kd ts) e (inK kinds) a := hinv
    by_cases hie : e ≤ i
    · have hd : decide (e ≤ i) = true := decide_eq_true hie
      rw [hd] at hE
      rw [untilF_stop (.inl hie)] at hinv'
      have hfin := hinv'.symm
      clear hinv hinv' hro h' hai hai' hie hd
      repeat' (first
    | simp only [*, go_nil, go_seq, go_cond, go_exit, go_xcode, go_region, go_ops_nil, go_ops, okG_some, okB_some, cwD_bool, gw_false, guardG, opG, isPtr, inB, sval, stake, eats, eaters, get, St.taken, put_slot, put_box, dem_none, ↓reduceIte, Nat.reduceLT, decide_true, List.filterMap_cons, List.filterMap_nil, Option.map_some, List.contains_nil, List.map_cons, List.map_nil, Nat.reduceBEq, Bool.false_eq_true, row9, frz9, frzOf_def, frz_nil, Bool.not_true, List.all_nil, dun, Bool.and_false, and_self, pid0, stepPtr]
    | (refine drW_intro (by kernel_rfl) ?_)
    | (refine gw_intro (fun h => ?_) (fun h => ?_) <;> (try simp only [beq_true, beq_false, Bool.not_eq_eq_eq_not, Bool.not_true, Bool.not_false, Bool.not_not, decide_eq_true_eq, decide_eq_false_iff_not, ge_iff_le, gt_iff_lt] at h)))
      refine hx _ _ ?_
      repeat' (first
    | simp only [*, go_nil, go_xblk, put_box, setBox_box, endQ, endR, endV, rvars, ↓reduceIte, List.map_nil, Option.getD_some, and_self, lst1, pid0, Option.getD_some]
    | (refine drW_intro (by kernel_rfl) ?_)
    | (refine gw_intro (fun h => ?_) (fun h => ?_) <;> (try simp only [beq_true, beq_false, Bool.not_eq_eq_eq_not, Bool.not_true, Bool.not_false, Bool.not_not, decide_eq_true_eq, decide_eq_false_iff_not, ge_iff_le, gt_iff_lt] at h)))
    · have hd : decide (e ≤ i) = false := decide_eq_false hie
      rw [hd] at hE
      have hn1 := hn
      have hx1 := hx
      have hr1 := hr
      have hInv := Hd.mk hinv'
      have hRO := Hd.mk hro
      have hIE := Hd.mk hie
      clear hn hx hr hinv hinv' hro hie hd
      repeat' (first
    | simp only [*, go_seq, go_cond, go_block, go_skip, go_loop, go_region, go_ops_nil, go_ops, okG_some, okB_some, cwD_bool, gw_true, guardG, opG, isPtr, inB, sval, stake, eats, eaters, get, cval, cval1, croom, St.taken, put_slot, put_box, dem_none, setBox_slot, ↓reduceIte, Nat.reduceEqDiff, Nat.reduceLT, decide_true, List.filterMap_cons, List.filterMap_nil, Option.map_some, List.contains_nil, List.map_cons, List.map_nil, Nat.reduceBEq, Bool.false_eq_true, row9, frz9, frzOf_def, frz_nil, Bool.not_false, List.all_nil, dun, Bool.and_false, and_self, len44, pid0, stepPtr]
    | (refine drW_intro (by kernel_rfl) ?_)
    | (refine gw_intro (fun h => ?_) (fun h => ?_) <;> (try simp only [beq_true, beq_false, Bool.not_eq_eq_eq_not, Bool.not_true, Bool.not_false, Bool.not_not, decide_eq_true_eq, decide_eq_false_iff_not, ge_iff_le, gt_iff_lt] at h)))
      refine loopH (fun s => ∃ j : Nat, j ≤ kinds.length ∧ s.slot 0 = .ptr 1000000 0 0 ∧ s.slot 1 = LI kinds ∧ s.slot 9 = LI kinds ∧ s.slot 10 = .int .i64 kinds.length ∧ s.slot 11 = .int .i64 j ∧ s.box 1000000 = some (⟨0, [.list (ts.map Tk.d), .int .i64 ((i : Nat) : Int), .int .i64 ((e : Nat) : Int)]⟩ : Bx) ∧ Hd (∀ m, m < j → kinds.getD m 0 ≠ kd ts i))
        (fun s => kinds.length - slotI s 11) ?_ ?_
      · refine ⟨0, Nat.zero_le _, ?_, ?_, ?_, ?_, ?_, ?_, Hd.mk (fun m hm => absurd hm (Nat.not_lt_zero _))⟩
        all_goals simp only [*, put_slot, put_box, setBox_slot, setBox_box, ↓reduceIte, Nat.reduceEqDiff, reduceCtorEq]
        all_goals rfl
      · rintro s2 K2 ⟨j, hj, g0, g1, g9, g10, g11, gb, gno⟩ hn hx hr
        have hro : RO ts i e := hRO
        by_cases hjl : j < kinds.length
        · have hlt : (j : Int) < kinds.length := by omega
          have hIs := isK_L hro (kinds.getD j 0)
          have hw := wrapS j (by omega)
          have hg : (kinds.map (D.int .i64)).getD j .bad = .int .i64 (kinds.getD j 0) := by simp [List.getD, hjl]
          have hIn := inK_of hjl
          have gno' : ∀ m, m < j → kinds.getD m 0 ≠ kd ts i := gno
          have hjf : isB ts i e (kinds.getD j 0) = decide (kd ts i = kinds.getD j 0) := by
            have : ¬ e ≤ i := hIE
            unfold isB
            rw [decide_eq_true (by omega : i < e), Bool.true_and]
          by_cases hk : kd ts i = kinds.getD j 0
          · rw [hjf, decide_eq_true hk] at hIs
            have hi2 : untilF (kd ts) e (inK kinds) i = untilF (kd ts) e (inK kinds) a := hInv
            rw [untilF_stop (.inr (by rw [hk]; exact hIn))] at hi2
            have hfin := hi2.symm
            generalize kinds.getD j 0 = kj at *
            clear hro gno gno' hIn hi2 hjf hk hRO hIE hInv hx hn
            repeat' (first
    | simp only [*, go_seq, go_cond, go_block, go_skip, go_retc, go_region, go_ops_nil, go_ops, okG_some, okB_some, cwD_bool, gw_true, guardG, opG, isPtr, inB, sval, stake, eats, eaters, get, St.taken, put_slot, put_room, put_box, dem_none, dem_slot, dem_box, ↓reduceIte, Nat.reduceEqDiff, Nat.reduceLT, reduceCtorEq, decide_true, List.filterMap_cons, List.filterMap_nil, Option.map_some, List.getElem?_cons_zero, List.contains_nil, List.map_cons, List.map_nil, Bool.and_true, Nat.reduceBEq, Bool.false_eq_true, dbin, dIntBin, row9, frz9, frzOf_def, frz_nil, pureB, leaf, leafN, List.all_cons, List.all_nil, List.length_nil, List.length_cons, dcells, Nat.zero_add, Bool.and_false, Int.natCast_nonneg, Int.toNat_natCast, and_self, dp3, ia44, pid0, stepPtr]
    | (refine drW_intro (by kernel_rfl) ?_)
    | (refine gw_intro (fun h => ?_) (fun h => ?_) <;> (try simp only [beq_true, beq_false, Bool.not_eq_eq_eq_not, Bool.not_true, Bool.not_false, Bool.not_not, decide_eq_true_eq, decide_eq_false_iff_not, ge_iff_le, gt_iff_lt] at h)))
            refine hr _ ?_
            repeat' (first
    | simp only [*, go_nil, go_seq, go_cond, go_block, go_blk, go_skip, go_exit, go_retc, go_xcode, go_xblk, go_loop, go_region, go_draw, go_ops_nil, go_dops_nil, go_ops, go_dops1, go_dops, okG_some, okB_some, gwD_bool, gwD_undef, cwD_bool, gw_true, gw_false, guardG_none, guardG, opG, opD, isPtr, isStore, inB, sval, stake, eats, eaters, get, cval, cval1, croom, St.taken, put_slot, put_room, put_box, put_ctr, put_none, dem_none, dem_slot, dem_box, dem_ctr, dem_room, dem_room1, setBox_slot, setBox_room, setBox_ctr, setBox_box, entry_slot, entry_room, entry_box, entry_ctr, endQ, endR, endV, rvars, rvar, room1, ↓reduceIte, Nat.reduceEqDiff, Nat.reduceLT, Nat.reduceLeDiff, reduceCtorEq, decide_true, decide_false, List.filterMap_cons, List.filterMap_nil, Option.bind_some, Option.map_some, Option.bind_none, Option.map_none, List.getElem?_cons_zero, List.getElem?_cons_succ, List.getD_cons_zero, List.getD_cons_succ, List.contains_cons, List.contains_nil, List.map_cons, List.map_nil, beq_self_eq_true, beq_iff_eq, Bool.or_false, Bool.false_or, Bool.or_true, Bool.true_or, Bool.and_true, Bool.true_and, Nat.reduceBEq, Bool.false_eq_true, dbin, dIntBin, okR, callG, endN, newV, row9, frz9, frzOf_def, frz_nil, frz_cons, frzD, rowList, rowElem, stepRow, madeRow, isLocal, allocKey, isAlloc, loadsOwn, ptrAt, beq_true, beq_false, Bool.not_true, Bool.not_false, pureB, leaf, leafN, List.all_cons, List.all_nil, List.nil_append, List.cons_append, List.append_nil, List.take_nil, List.range_zero, List.length_nil, List.length_cons, String.reduceBEq, Bool.true_beq, Bool.false_beq, List.find?_cons, List.find?_nil, dun, List.getElem?_nil, List.take_zero, List.drop_zero, List.take_succ_cons, List.drop_succ_cons, dcells, Nat.zero_add, Nat.reduceAdd, Nat.reduceSub, Nat.reduceMul, stepBox, Bool.and_false, Bool.false_and, and_true, true_and, List.zipWith, Option.getD_some, List.singleton_append, List.map_map, Int.natCast_nonneg, Int.toNat_natCast, and_self, Nat.mul_one, Nat.add_zero, if_true, St.freeze, false_or, or_true, true_or, or_false, szOk_cons, szOk_nil, List.cons.injEq, false_and, and_false, forall_const, List.getElem?_toArray, List.getElem_toArray, dopt, dbound, ge_iff_le, gt_iff_lt, dStrBin, List.take_length, plainR_s, Int.reduceLE, Int.reduceLT, Int.reduceToNat, Int.reduceBEq, Int.reduceBNe, ty3, ty4, ty5, ty9, dp3, dp4, dp5, dp9, ty22, ia22, len22, ap22, sl22, bs22e, ty44, ia44, len44, ap44, sl44, bs44e, ty62, ia62, len62, ap62, sl62, bs62e, bs22, bs22_2, bs22_3, bs22_4, bs44, ty56, dp56, fa56_0, fp56_0, fa56_1, fp56_1, fa56_2, fp56_2, fa56_3, fp56_3, fa56_4, fp56_4, fa56_5, fp56_5, zr56, ty24, ia24, len24, ap24, bs24e, bs24, ty32, dp32, fa32_0, fp32_0, fa32_1, fp32_1, fa32_2, fp32_2, fa32_3, fp32_3, fa32_4, fp32_4, fa32_5, fp32_5, fa32_6, fp32_6, zr32, ty26, ia26, len26, ap26, bs26e, bs26, ty41, dp41, fa41_0, fp41_0, fa41_1, fp41_1, fa41_2, fp41_2, fa41_3, fp41_3, zr41, ty35, ia35, len35, ap35, bs35e, bs35, bd56_012, bd56_0123, bd56_01235, bd56_01, bd56_01245, bd32_24, bd32_012, bd32_, bd32_243, bd41_, bd41_0, ty51, fp51_0, fp51_1, fp51_2, bd51, dp24, ia22r, len22r, len9, ix9, sl9, cv53, cv35, cv922, cv229, dmx, dmn, lst1, pid0, at0, Nat.le_refl, Nat.sub_self, Option.getD_some, stepPtr, Option.some.injEq, bs44_2]
    | (refine drW_intro (by kernel_rfl) ?_)
    | (refine gw_intro (fun h => ?_) (fun h => ?_) <;> (try simp only [beq_true, beq_false, Bool.not_eq_eq_eq_not, Bool.not_true, Bool.not_false, Bool.not_not, decide_eq_true_eq, decide_eq_false_iff_not, ge_iff_le, gt_iff_lt] at h)))
            refine hr1 _ ?_
            repeat' (first
    | simp only [*, put_box, dem_box, setBox_box, endQ, endR, endV, rvars, ↓reduceIte, List.map_nil, Option.getD_some, and_self, lst1, pid0, Option.getD_some]
    | (refine drW_intro (by kernel_rfl) ?_)
    | (refine gw_intro (fun h => ?_) (fun h => ?_) <;> (try simp only [beq_true, beq_false, Bool.not_eq_eq_eq_not, Bool.not_true, Bool.not_false, Bool.not_not, decide_eq_true_eq, decide_eq_false_iff_not, ge_iff_le, gt_iff_lt] at h)))
          · rw [hjf, decide_eq_false hk] at hIs
            have T := Hd.mk (show ∀ m, m < j + 1 → kinds.getD m 0 ≠ kd ts i from fun m hm => by
              rcases (by omega : m < j ∨ m = j) with h1 | h1
              · exact gno' m h1
              · rw [h1]; exact fun hh => hk hh.symm)
            generalize kinds.getD j 0 = kj at *
            clear hro gno gno' hIn hjf hk hx hr
            repeat' (first
    | simp only [*, go_nil, go_seq, go_cond, go_block, go_blk, go_skip, go_region, go_ops_nil, go_ops, okG_some, okB_some, cwD_bool, gw_true, gw_false, guardG, opG, isPtr, inB, sval, stake, eats, eaters, get, cval, cval1, St.taken, put_slot, put_room, put_box, dem_none, dem_slot, dem_box, setBox_slot, ↓reduceIte, Nat.reduceEqDiff, Nat.reduceLT, reduceCtorEq, decide_true, List.filterMap_cons, List.filterMap_nil, Option.map_some, List.getElem?_cons_zero, List.contains_nil, List.map_cons, List.map_nil, Bool.and_true, Nat.reduceBEq, Bool.false_eq_true, dbin, dIntBin, row9, frz9, frzOf_def, frz_nil, pureB, leaf, leafN, List.all_cons, List.all_nil, List.length_nil, List.length_cons, dcells, Nat.zero_add, Bool.and_false, Int.natCast_nonneg, Int.toNat_natCast, and_self, dp3, ia44, pid0, stepPtr]
    | (refine drW_intro (by kernel_rfl) ?_)
    | (refine gw_intro (fun h => ?_) (fun h => ?_) <;> (try simp only [beq_true, beq_false, Bool.not_eq_eq_eq_not, Bool.not_true, Bool.not_false, Bool.not_not, decide_eq_true_eq, decide_eq_false_iff_not, ge_iff_le, gt_iff_lt] at h)))
            refine hn _ ⟨j + 1, hjl, ?_, ?_, ?_, ?_, ?_, ?_, T⟩ ?_
            · simp only [*, put_slot, dem_slot, setBox_slot, ↓reduceIte, reduceCtorEq]
            · simp only [*, put_slot, dem_slot, setBox_slot, ↓reduceIte, Nat.reduceEqDiff]
            · simp only [*, put_slot, dem_slot, setBox_slot, ↓reduceIte, Nat.reduceEqDiff]
            · simp only [*, put_slot, dem_slot, setBox_slot, ↓reduceIte, Nat.reduceEqDiff]
            · simp only [*, put_slot, ↓reduceIte]
            · simp only [*, put_box, setBox_box, ↓reduceIte]
            · simp only [slotI, *, put_slot, ↓reduceIte, Int.toNat_natCast]
              omega
        · have hjl' : j = kinds.length := by omega
          have hlt : ¬ (j : Int) < kinds.length := by omega
          have hV := value_L hro (by have : ¬ e ≤ i := hIE; omega)
          have hno : inK kinds (kd ts i) = false := inK_no (by rw [← hjl']; exact gno)
          have hlt1 : i < e := by have : ¬ e ≤ i := hIE; omega
          have hpos := behindF_pos (ks := kd ts) hlt1
          have T := Hd.mk (show untilF (kd ts) e (inK kinds) (behindF (kd ts) e i).1 = untilF (kd ts) e (inK kinds) a by rw [← untilF_step hlt1 hno]; exact hInv)
          have hge := Hd.mk (show a ≤ (behindF (kd ts) e i).1 by omega)
          have hf := hro.fit
          have hm : i < (behindF (kd ts) e i).1 ∧ i < ts.length + a + 1 := by omega
          generalize (behindF (kd ts) e i).1 = nx at *
          clear hro gno hno hjl' hf hpos hn hr
          repeat' (first
    | simp only [*, go_nil, go_seq, go_cond, go_exit, go_xcode, go_region, go_ops_nil, go_ops, okG_some, cwD_bool, gw_false, guardG, opG, inB, sval, stake, eats, eaters, get, put_slot, dem_none, ↓reduceIte, Nat.reduceLT, decide_true, decide_false, List.filterMap_cons, List.filterMap_nil, Option.map_some, List.contains_nil, Bool.false_eq_true, dbin, dIntBin, row9, frz9, frzOf_def, frz_nil]
    | (refine drW_intro (by kernel_rfl) ?_)
    | (refine gw_intro (fun h => ?_) (fun h => ?_) <;> (try simp only [beq_true, beq_false, Bool.not_eq_eq_eq_not, Bool.not_true, Bool.not_false, Bool.not_not, decide_eq_true_eq, decide_eq_false_iff_not, ge_iff_le, gt_iff_lt] at h)))
          refine hx _ _ ?_
          repeat' (first
    | simp only [*, go_nil, go_blk, go_xblk, go_region, go_ops_nil, go_ops, okG_some, okB_some, guardG, opG, isPtr, inB, sval, stake, eats, eaters, get, St.taken, put_slot, put_box, dem_none, ↓reduceIte, Nat.reduceLT, reduceCtorEq, decide_true, List.filterMap_cons, List.filterMap_nil, List.contains_nil, List.map_cons, List.map_nil, Nat.reduceBEq, Bool.false_eq_true, row9, frz9, frzOf_def, frz_nil, List.all_nil, Bool.and_false, and_self, pid0, stepPtr]
    | (refine drW_intro (by kernel_rfl) ?_)
    | (refine gw_intro (fun h => ?_) (fun h => ?_) <;> (try simp only [beq_true, beq_false, Bool.not_eq_eq_eq_not, Bool.not_true, Bool.not_false, Bool.not_not, decide_eq_true_eq, decide_eq_false_iff_not, ge_iff_le, gt_iff_lt] at h)))
          refine hn1 _ ⟨nx, hge, ?_, ?_, ?_, T⟩ ?_
          · simp only [*, put_slot, setBox_slot, ↓reduceIte, reduceCtorEq]
          · simp only [*, put_slot, setBox_slot, ↓reduceIte, Nat.reduceEqDiff]
          · simp only [*, put_box, setBox_box, ↓reduceIte]
          · simp only [*, put_box, setBox_box, ↓reduceIte]
            omega
theorem closed_end {ks : Nat → Int} {e a : Nat} (h : closeK (ks a) ≠ 0) : (if closedF ks e a then (behindF ks e a).1 - 1 else (behindF ks e a).1) = (behindF ks e a).2 := by
  unfold closedF behindF
  rw [if_neg h]
  have hb : (closeK (ks a) == 0) = false := by simpa using h
  rw [hb, Bool.false_or]
  dsimp only
  by_cases hp : untilF ks e (fun k => k == closeK (ks a)) (a + 1) < e
  · rw [if_pos hp, if_pos (by simpa using hp)]
    simp
  · rw [if_neg hp, if_neg (by simpa using hp)]
set_option maxHeartbeats 8000000 in
theorem block_L {ts : List Tk} {a e : Nat} (h : RO ts a e) (hae : a < e) (hk : closeK (kd ts a) ≠ 0) : callL Try.prog ext9 31 [.ptr 1000000 0 0] [(⟨0, [.list (ts.map Tk.d), .int .i64 ((a : Nat) : Int), .int .i64 ((e : Nat) : Int)]⟩ : Bx)] =
    some (.tuple [.int .i64 (a + 1 : Nat), .int .i64 ((behindF (kd ts) e a).2 : Nat)], [.no, .no], [(⟨0, [.list (ts.map Tk.d), .int .i64 (((behindF (kd ts) e a).1 : Nat) : Int), .int .i64 ((e : Nat) : Int)]⟩ : Bx)]) := by
  have hl := h.len
  have hf := h.fit
  have hV := value_L h hae
  have hw := wrapS a (by omega)
  have hpos := behindF_pos (ks := kd ts) hae
  have hws : IntKind.i64.wrap (((behindF (kd ts) e a).1 : Nat) - 1 : Int) = (((behindF (kd ts) e a).1 - 1 : Nat) : Int) := by
    rw [wrap64 _ (by omega) (by omega)]; omega
  have hce := closed_end (e := e) hk
  refine callK (m := 22) (res := [2, 3]) (rs := [.tmp 2, .tmp 3]) rfl Try.func31 rfl rfl rfl rfl rfl ?_
  generalize (behindF (kd ts) e a).1 = nx at *
  generalize (behindF (kd ts) e a).2 = en at *
  generalize closedF (kd ts) e a = c at *
  clear hpos h
  cases c with
  | true =>
    have hce' : nx - 1 = en := by simpa using hce
    clear hce
    subst hce'
    repeat' (first
    | simp only [*, go_seq, go_cond, go_retc, go_region, go_draw, go_ops_nil, go_ops, go_dops1, go_dops, okG_some, okB_some, cwD_bool, gw_true, guardG, opG, opD, isPtr, isStore, inB, sval, stake, eats, eaters, get, cval, cval1, croom, St.taken, put_slot, put_room, put_box, dem_none, dem_slot, dem_box, dem_room, setBox_slot, setBox_room, setBox_box, entry_slot, entry_box, endQ, endR, endV, rvars, rvar, room1, ↓reduceIte, Nat.reduceEqDiff, Nat.reduceLT, reduceCtorEq, decide_true, List.filterMap_cons, List.filterMap_nil, Option.map_some, Option.bind_none, List.getElem?_cons_zero, List.getElem?_cons_succ, List.getD_cons_zero, List.contains_cons, List.contains_nil, List.map_cons, List.map_nil, beq_self_eq_true, beq_iff_eq, Bool.or_false, Bool.or_true, Nat.reduceBEq, Bool.false_eq_true, dbin, dIntBin, row9, frz9, frzOf_def, frz_nil, allocKey, isAlloc, loadsOwn, pureB, leaf, leafN, List.all_nil, List.take_nil, List.length_nil, List.length_cons, List.find?_cons, List.find?_nil, Nat.zero_add, Bool.and_false, Option.getD_some, and_self, dp3, fp51_1, lst1, pid0, Nat.le_refl, Nat.sub_self, Option.getD_some, stepPtr]
    | (refine drW_intro (by kernel_rfl) ?_)
    | (refine gw_intro (fun h => ?_) (fun h => ?_) <;> (try simp only [beq_true, beq_false, Bool.not_eq_eq_eq_not, Bool.not_true, Bool.not_false, Bool.not_not, decide_eq_true_eq, decide_eq_false_iff_not, ge_iff_le, gt_iff_lt] at h)))
  | false =>
    have hce' : nx = en := by simpa using hce
    clear hce
    subst hce'
    repeat' (first
    | simp only [*, go_seq, go_cond, go_skip, go_retc, go_region, go_draw, go_ops_nil, go_ops, go_dops1, go_dops, okG_some, okB_some, cwD_bool, gw_false, guardG, opG, opD, isPtr, isStore, inB, sval, stake, eats, eaters, get, cval, cval1, croom, St.taken, put_slot, put_room, put_box, dem_none, dem_slot, dem_box, dem_room, setBox_slot, setBox_room, setBox_box, entry_slot, entry_box, endQ, endR, endV, rvars, rvar, room1, ↓reduceIte, Nat.reduceEqDiff, Nat.reduceLT, reduceCtorEq, decide_true, List.filterMap_cons, List.filterMap_nil, Option.map_some, Option.bind_none, List.getElem?_cons_zero, List.getElem?_cons_succ, List.getD_cons_zero, List.contains_cons, List.contains_nil, List.map_cons, List.map_nil, beq_self_eq_true, beq_iff_eq, Bool.or_false, Bool.or_true, Nat.reduceBEq, Bool.false_eq_true, dbin, dIntBin, row9, frz9, frzOf_def, frz_nil, allocKey, isAlloc, loadsOwn, pureB, leaf, leafN, List.all_nil, List.take_nil, List.length_nil, List.length_cons, List.find?_cons, List.find?_nil, Nat.zero_add, Bool.and_false, Option.getD_some, and_self, dp3, fp51_1, lst1, pid0, Nat.le_refl, Nat.sub_self, Option.getD_some, stepPtr]
    | (refine drW_intro (by kernel_rfl) ?_)
    | (refine gw_intro (fun h => ?_) (fun h => ?_) <;> (try simp only [beq_true, beq_false, Bool.not_eq_eq_eq_not, Bool.not_true, Bool.not_false, Bool.not_not, decide_eq_true_eq, decide_eq_false_iff_not, ge_iff_le, gt_iff_lt] at h)))
end Go.Av
/- Chapter 19: a part of tokens without blanks around it: both texts; the program's component value. -/
set_option linter.unusedSimpArgs false
set_option linter.unusedVariables false
set_option linter.unusedSectionVars false
set_option maxRecDepth 100000
namespace Go.Av
open Go.Proofs Go.Proofs.Ytaldmffahmomoaa Go.RowKit
def bkF (ks : Nat → Int) (s : Nat) : Nat → Nat
  | 0 => 0
  | e + 1 => if s < e + 1 ∧ ks e = 13 then bkF ks s e else e + 1
theorem bkF_step {ks : Nat → Int} {s e : Nat} (h : s < e) (hk : ks (e - 1) = 13) : bkF ks s e = bkF ks s (e - 1) := by
  cases e with
  | zero => omega
  | succ e => rw [bkF, if_pos ⟨h, hk⟩]; rfl
theorem bkF_stop {ks : Nat → Int} {s e : Nat} (h : e ≤ s ∨ ks (e - 1) ≠ 13) : bkF ks s e = e := by
  cases e with
  | zero => rfl
  | succ e =>
    rw [bkF, if_neg]
    rintro ⟨h1, h2⟩
    rcases h with h | h
    · omega
    · exact h h2
theorem bkF_pos {ks : Nat → Int} {s : Nat} : ∀ {e : Nat}, bkF ks s e ≤ e ∧ (s ≤ e → s ≤ bkF ks s e)
  | 0 => ⟨Nat.le_refl _, id⟩
  | e + 1 => by
    rw [bkF]
    split
    · rename_i h
      have := bkF_pos (ks := ks) (s := s) (e := e)
      exact ⟨Nat.le_succ_of_le this.1, fun _ => this.2 (by omega)⟩
    · exact ⟨Nat.le_refl _, id⟩
/-- A part without blanks around it. -/
def trimF (ts : List Tk) (fr to : Int) : Nat × Nat :=
  if (cutF ts fr to).2 ≤ spF (kd ts) (cutF ts fr to).2 (cutF ts fr to).1 then ((cutF ts fr to).1, (cutF ts fr to).1)
  else (spF (kd ts) (cutF ts fr to).2 (cutF ts fr to).1, bkF (kd ts) (spF (kd ts) (cutF ts fr to).2 (cutF ts fr to).1) (cutF ts fr to).2)
theorem runN_end {p : Nat → Bool} {n : Nat} (hp : ∀ a, n ≤ a → p a = false) : ∀ k a, n - a ≤ k → p (runN p k a) = false
  | 0, a, h => hp _ (by simp only [runN]; omega)
  | k + 1, a, h => by
    unfold runN
    split
    · exact runN_end hp k (a + 1) (by omega)
    · rename_i hf
      simpa using hf
theorem runF_end {p : Nat → Bool} {n a : Nat} (hp : ∀ a, n ≤ a → p a = false) : p (runF p n a) = false := runN_end hp _ _ (Nat.le_refl _)
theorem sp_not {ts : List Tk} {e a : Nat} (h : spF (kd ts) e a < e) : kd ts (spF (kd ts) e a) ≠ 13 := fun hk => by
  have h1 : isB ts (spF (kd ts) e a) e 13 = true := by unfold isB; simp [h, hk]
  have h2 := runF_end (p := fun i => decide (i < e) && decide (kd ts i = 13)) (n := e) (a := a) (fun i hi => by simp [Nat.not_lt.2 hi])
  exact absurd (h1.symm.trans h2) (by simp)
set_option maxHeartbeats 8000000 in
theorem trim_L (ts : List Tk) (hl : ts.length ≤ 1000000) (fr to : Int) : callL Try.prog ext9 19 [Tks ts, .int .i64 fr, .int .i64 to] [] =
    some (.tuple [.int .i64 ((trimF ts fr to).1 : Nat), .int .i64 ((trimF ts fr to).2 : Nat)], [.no, .no], []) := by
  have hP := part_L ts hl fr to
  have hle := cutF_le ts fr to
  have hge := cutF_ge ts fr to
  have lN := TkLen ts
  unfold trimF
  generalize (cutF ts fr to).1 = a at *
  generalize (cutF ts fr to).2 = e at *
  have hro : RO ts a e := ⟨hl, hle⟩
  have hB := blanks_L hro
  have hsp := spF_ge (kd ts) e a
  have hE := ends_L ts (spF (kd ts) e a) e
  have hns := sp_not (ts := ts) (e := e) (a := a)
  generalize spF (kd ts) e a = s at *
  refine callK (m := 55) (res := [6, 7]) (rs := [.tmp 6, .tmp 7]) rfl Try.func19 rfl rfl rfl rfl rfl ?_
  by_cases hes : e ≤ s
  · rw [decide_eq_true hes] at hE
    rw [if_pos hes]
    clear hro hns
    repeat' (first
    | simp only [*, go_seq, go_cond, go_retc, go_region, go_ops_nil, go_ops, okG_some, okB_some, cwD_bool, gw_true, guardG, opG, isPtr, inB, sval, stake, eats, eaters, get, cval, cval1, croom, St.taken, put_slot, put_room, put_box, put_ctr, dem_none, dem_slot, dem_box, dem_ctr, dem_room, setBox_slot, setBox_room, setBox_ctr, setBox_box, entry_slot, entry_box, entry_ctr, endQ, endR, endV, rvars, rvar, room1, ↓reduceIte, Nat.reduceEqDiff, Nat.reduceLT, reduceCtorEq, decide_true, List.filterMap_cons, List.filterMap_nil, Option.map_some, List.getElem?_cons_zero, List.getElem?_cons_succ, List.getD_cons_zero, List.getD_cons_succ, List.contains_cons, List.contains_nil, List.map_cons, List.map_nil, beq_self_eq_true, Bool.or_false, Bool.or_true, Bool.and_true, Nat.reduceBEq, Bool.false_eq_true, okR, callG, row9, frz9, frzOf_def, frz_nil, pureB, leaf, leafN, List.all_cons, List.all_nil, List.nil_append, List.append_nil, List.take_nil, List.range_zero, List.length_nil, List.getElem?_nil, Nat.zero_add, Nat.reduceAdd, Bool.and_false, and_self, dp3, fp51_1, pid0, stepPtr]
    | (refine drW_intro (by kernel_rfl) ?_)
    | (refine gw_intro (fun h => ?_) (fun h => ?_) <;> (try simp only [beq_true, beq_false, Bool.not_eq_eq_eq_not, Bool.not_true, Bool.not_false, Bool.not_not, decide_eq_true_eq, decide_eq_false_iff_not, ge_iff_le, gt_iff_lt] at h)))
  · rw [decide_eq_false hes] at hE
    rw [if_neg hes]
    have hns' := hns (by omega)
    have H := Hd.mk hns'
    clear hro hns hns'
    repeat' (first
    | simp only [*, go_seq, go_cond, go_block, go_skip, go_loop, go_region, go_ops_nil, go_ops, okG_some, okB_some, cwD_bool, gw_false, guardG, opG, isPtr, inB, sval, stake, eats, eaters, get, cval, cval1, croom, St.taken, put_slot, put_room, put_box, put_ctr, dem_none, dem_box, setBox_slot, setBox_room, setBox_box, entry_slot, entry_ctr, ↓reduceIte, Nat.reduceEqDiff, Nat.reduceLT, reduceCtorEq, decide_true, List.filterMap_cons, List.filterMap_nil, List.getD_cons_zero, List.getD_cons_succ, List.contains_cons, List.contains_nil, List.map_cons, List.map_nil, Bool.or_false, Bool.and_true, Nat.reduceBEq, Bool.false_eq_true, okR, callG, row9, frz9, frzOf_def, frz_nil, pureB, leaf, leafN, List.all_cons, List.all_nil, List.nil_append, List.append_nil, List.length_nil, Nat.reduceAdd, Bool.and_false, and_self, pid0, stepPtr]
    | (refine drW_intro (by kernel_rfl) ?_)
    | (refine gw_intro (fun h => ?_) (fun h => ?_) <;> (try simp only [beq_true, beq_false, Bool.not_eq_eq_eq_not, Bool.not_true, Bool.not_false, Bool.not_not, decide_eq_true_eq, decide_eq_false_iff_not, ge_iff_le, gt_iff_lt] at h)))
    refine loopH (fun st => ∃ j : Nat, s < j ∧ j ≤ e ∧ st.slot 8 = .ptr 13 1 0 ∧ st.box 13 = some ⟨1, [.list (ts.map Tk.d), .int .i64 (s : Nat), .int .i64 (j : Nat)]⟩ ∧ Hd (bkF (kd ts) s j = bkF (kd ts) s e))
      (fun st => match st.box 13 with | some ⟨_, [_, _, .int _ n]⟩ => n.toNat | _ => 0) ?_ ?_
    · refine ⟨e, by omega, Nat.le_refl _, ?_, ?_, Hd.mk rfl⟩
      all_goals simp only [*, put_slot, put_box, setBox_slot, setBox_box, ↓reduceIte, Nat.reduceEqDiff]
    · rintro st K ⟨j, hsj, hje, h8, hb, hinv⟩ hn hx hr
      have hw : IntKind.i64.wrap ((j : Int) - 1) = ((j - 1 : Nat) : Int) := by rw [wrap64 _ (by omega) (by omega)]; omega
      have hg := tk_at ts (j - 1) (by omega)
      have hlt : ((j - 1 : Nat) : Int) < ts.length := by omega
      have hinv' : bkF (kd ts) s j = bkF (kd ts) s e := hinv
      by_cases hk : kd ts (j - 1) = 13
      · have bk : (kd ts (j - 1) == 13) = true := beq_iff_eq.2 hk
        have hne : s < j - 1 := by
          rcases (by omega : s < j - 1 ∨ s = j - 1) with h | h
          · exact h
          · have h2 : kd ts s ≠ 13 := H
            rw [h] at h2
            exact absurd hk h2
        have T := Hd.mk (show bkF (kd ts) s (j - 1) = bkF (kd ts) s e by rw [← bkF_step hsj hk]; exact hinv')
        clear hinv hinv' hk
        repeat' (first
    | simp only [*, go_nil, go_seq, go_cond, go_block, go_blk, go_skip, go_region, go_draw, go_ops_nil, go_ops, go_dops1, go_dops, okG_some, okB_some, cwD_bool, gw_true, guardG, opG, opD, isStore, inB, sval, stake, eats, eaters, get, cval, cval1, St.taken, put_slot, put_box, put_none, dem_none, ↓reduceIte, Nat.reduceEqDiff, Nat.reduceLT, reduceCtorEq, decide_true, List.filterMap_cons, List.filterMap_nil, Option.map_some, Option.bind_none, List.getElem?_cons_zero, List.getElem?_cons_succ, List.contains_cons, List.contains_nil, beq_iff_eq, Bool.or_false, Nat.reduceBEq, Bool.false_eq_true, dbin, dIntBin, row9, frz9, frzOf_def, frz_nil, allocKey, isAlloc, loadsOwn, pureB, leaf, leafN, List.nil_append, List.cons_append, List.append_nil, List.length_nil, List.length_cons, List.find?_cons, List.find?_nil, List.take_zero, List.drop_zero, List.take_succ_cons, List.drop_succ_cons, dcells, Nat.zero_add, Nat.reduceAdd, stepBox, Bool.and_false, Int.natCast_nonneg, Int.toNat_natCast, and_self, Nat.add_zero, ty3, dp3, fa56_0, ia24, fp51_0, fp51_2, dp24, Nat.le_refl]
    | (refine drW_intro (by kernel_rfl) ?_)
    | (refine gw_intro (fun h => ?_) (fun h => ?_) <;> (try simp only [beq_true, beq_false, Bool.not_eq_eq_eq_not, Bool.not_true, Bool.not_false, Bool.not_not, decide_eq_true_eq, decide_eq_false_iff_not, ge_iff_le, gt_iff_lt] at h)))
        refine hn _ ⟨j - 1, hne, by omega, ?_, ?_, T⟩ ?_
        · simp only [*, put_slot, setBox_slot, ↓reduceIte, Nat.reduceEqDiff]
        · simp only [*, setBox_box, ↓reduceIte]
        · simp only [*, setBox_box, ↓reduceIte]
          omega
      · have bk : (kd ts (j - 1) == 13) = false := beq_eq_false_iff_ne.2 hk
        rw [bkF_stop (.inr hk)] at hinv'
        have hfin := hinv'.symm
        clear hinv hinv' hk
        repeat' (first
    | simp only [*, go_nil, go_seq, go_cond, go_exit, go_xcode, go_draw, go_dops1, go_dops, okG_some, cwD_bool, gw_false, guardG, opD, isStore, inB, sval, stake, eats, eaters, get, cval, cval1, St.taken, put_slot, put_box, dem_none, ↓reduceIte, Nat.reduceEqDiff, Nat.reduceLT, reduceCtorEq, decide_true, List.filterMap_cons, List.filterMap_nil, Option.map_some, Option.bind_none, List.getElem?_cons_zero, List.getElem?_cons_succ, List.contains_cons, List.contains_nil, beq_iff_eq, Bool.or_false, Nat.reduceBEq, Bool.false_eq_true, dbin, dIntBin, frz9, frzOf_def, frz_nil, allocKey, isAlloc, loadsOwn, List.length_nil, List.length_cons, List.find?_cons, List.find?_nil, dcells, Nat.zero_add, Nat.reduceAdd, Bool.and_false, Int.natCast_nonneg, Int.toNat_natCast, and_self, Nat.add_zero, dp3, fa56_0, ia24, fp51_0, fp51_2, dp24]
    | (refine drW_intro (by kernel_rfl) ?_)
    | (refine gw_intro (fun h => ?_) (fun h => ?_) <;> (try simp only [beq_true, beq_false, Bool.not_eq_eq_eq_not, Bool.not_true, Bool.not_false, Bool.not_not, decide_eq_true_eq, decide_eq_false_iff_not, ge_iff_le, gt_iff_lt] at h)))
        refine hx _ _ ?_
        repeat' (first
    | simp only [*, go_seq, go_retc, go_xblk, go_draw, go_dops1, go_dops, okG_some, guardG, opD, isStore, inB, sval, stake, eats, eaters, get, St.taken, put_slot, put_room, put_box, dem_none, dem_slot, dem_box, dem_room, endQ, endR, endV, rvars, rvar, room1, ↓reduceIte, Nat.reduceEqDiff, Nat.reduceLT, reduceCtorEq, decide_true, List.filterMap_cons, List.filterMap_nil, Option.map_some, Option.bind_none, List.getElem?_cons_zero, List.getElem?_cons_succ, List.contains_cons, List.contains_nil, List.map_cons, List.map_nil, beq_self_eq_true, beq_iff_eq, Bool.or_false, Bool.or_true, Nat.reduceBEq, Bool.false_eq_true, frz9, frzOf_def, frz_nil, allocKey, isAlloc, loadsOwn, pureB, leaf, leafN, List.take_nil, List.range_zero, List.find?_cons, List.find?_nil, Nat.zero_add, Bool.and_false, and_self, dp3, fp51_1, fp51_2]
    | (refine drW_intro (by kernel_rfl) ?_)
    | (refine gw_intro (fun h => ?_) (fun h => ?_) <;> (try simp only [beq_true, beq_false, Bool.not_eq_eq_eq_not, Bool.not_true, Bool.not_false, Bool.not_not, decide_eq_true_eq, decide_eq_false_iff_not, ge_iff_le, gt_iff_lt] at h)))
def NR (r : List Room) : Prop := r = [] ∨ r = [.no]
set_option maxHeartbeats 8000000 in
theorem rtrim_L (ts : List Tk) (hl : ts.length ≤ 1000000) (fr to : Int) : callL Try.prog ext9 20 [Tks ts, .int .i64 fr, .int .i64 to] [] =
    some (.tuple [.int .i64 ((trimF ts fr to).1 : Nat), .int .i64 ((trimF ts fr to).2 : Nat)], [.no, .no], []) := by
  have hP := cut_L ts hl fr to
  have hle := cutF_le ts fr to
  have hge := cutF_ge ts fr to
  have lN := TkLen ts
  unfold trimF
  generalize (cutF ts fr to).1 = a at *
  generalize (cutF ts fr to).2 = e at *
  have hsp := spF_ge (kd ts) e a
  have hns := sp_not (ts := ts) (e := e) (a := a)
  have hns' := Hd.mk hns
  clear hns
  refine callK (m := 53) (res := [6, 7]) (rs := [.tmp 6, .tmp 7]) rfl Try.func20 rfl rfl rfl rfl rfl ?_
  repeat' (first
    | simp only [*, go_seq, go_block, go_loop, go_region, go_ops_nil, go_ops, okG_some, guardG, opG, isPtr, inB, sval, stake, eats, eaters, get, cval, cval1, croom, St.taken, put_slot, put_room, dem_none, dem_slot, dem_room, dem_room1, entry_slot, ↓reduceIte, Nat.reduceEqDiff, Nat.reduceLT, reduceCtorEq, decide_true, List.filterMap_cons, List.filterMap_nil, List.getElem?_cons_zero, List.getElem?_cons_succ, List.getD_cons_zero, List.getD_cons_succ, List.contains_cons, List.contains_nil, List.map_cons, List.map_nil, beq_self_eq_true, Bool.or_false, Bool.or_true, Bool.and_true, Nat.reduceBEq, Bool.false_eq_true, okR, callG, row9, frz9, frzOf_def, frz_nil, pureB, leaf, leafN, List.all_cons, List.all_nil, List.nil_append, List.append_nil, List.length_nil, Bool.and_false]
    | (refine drW_intro (by kernel_rfl) ?_)
    | (refine gw_intro (fun h => ?_) (fun h => ?_) <;> (try simp only [beq_true, beq_false, Bool.not_eq_eq_eq_not, Bool.not_true, Bool.not_false, Bool.not_not, decide_eq_true_eq, decide_eq_false_iff_not, ge_iff_le, gt_iff_lt] at h)))
  refine loopH (fun st => ∃ (i : Nat) (ra rb : List Room), a ≤ i ∧ i ≤ e ∧ st.slot 0 = .list (ts.map Tk.d) ∧ st.slot 8 = .int .i64 i ∧ st.slot 9 = .int .i64 e ∧ st.slot 10 = .int .i64 a ∧ st.room 8 = ra ∧ st.room 9 = rb ∧ Hd (NR ra ∧ NR rb) ∧ st.room 10 = [] ∧ Hd (spF (kd ts) e i = spF (kd ts) e a))
    (fun st => e - slotI st 8) ?_ ?_
  · refine ⟨a, [.no], [.no], Nat.le_refl _, hge, ?_, ?_, ?_, ?_, ?_, ?_, Hd.mk ⟨.inr rfl, .inr rfl⟩, ?_, Hd.mk rfl⟩
    all_goals simp only [*, put_slot, put_room, dem_slot, dem_room, entry_slot, ↓reduceIte, Nat.reduceEqDiff, reduceCtorEq, List.getD_cons_zero]
    all_goals rfl
  · rintro st K ⟨i, ra, rb, hai, hie, h0, h8, h9, h10, r8, r9, hNR, r10, hinv⟩ hn hx hr
    have hinv' : spF (kd ts) e i = spF (kd ts) e a := hinv
    cases hb : isB ts i e 13 with
    | true =>
      obtain ⟨hlt, hk⟩ := isB_lt hb
      have bk : (kd ts i == 13) = true := beq_iff_eq.2 hk
      have g1 : (i : Int) < e := by omega
      have g2 : (i : Int) < ts.length := by omega
      have hg := tk_at ts i (by omega)
      have hw := wrapS i (by omega)
      have T := Hd.mk (show spF (kd ts) e (i + 1) = spF (kd ts) e a by rw [← spF_step hb]; exact hinv')
      have N2 := Hd.mk (show NR [] ∧ NR rb from ⟨.inl rfl, hNR.2⟩)
      clear hinv hinv' hb hk hns'
      repeat' (first
    | simp only [*, go_nil, go_seq, go_cond, go_block, go_blk, go_skip, go_region, go_ops_nil, go_ops, okG_some, gwD_bool, cwD_bool, gw_true, guardG, opG, inB, sval, stake, eats, eaters, get, cval, cval1, croom, St.taken, put_slot, put_room, dem_none, ↓reduceIte, Nat.reduceEqDiff, Nat.reduceLT, reduceCtorEq, decide_true, List.filterMap_cons, List.filterMap_nil, Option.bind_some, Option.map_some, List.getElem?_cons_zero, List.getElem?_cons_succ, List.contains_cons, List.contains_nil, beq_self_eq_true, Bool.or_false, Nat.reduceBEq, Bool.false_eq_true, dbin, dIntBin, row9, frz9, frzOf_def, frz_nil, List.length_nil, List.length_cons, dcells, Nat.zero_add, Nat.reduceAdd, Bool.and_false, Int.natCast_nonneg, Int.toNat_natCast, and_self, Nat.add_zero, dStrBin, dp3, fa56_0, ia24]
    | (refine drW_intro (by kernel_rfl) ?_)
    | (refine gw_intro (fun h => ?_) (fun h => ?_) <;> (try simp only [beq_true, beq_false, Bool.not_eq_eq_eq_not, Bool.not_true, Bool.not_false, Bool.not_not, decide_eq_true_eq, decide_eq_false_iff_not, ge_iff_le, gt_iff_lt] at h)))
      refine hn _ ⟨i + 1, [], rb, by omega, hlt, ?_, ?_, ?_, ?_, ?_, ?_, N2, ?_, T⟩ ?_
      · simp only [*, put_slot, dem_slot, ↓reduceIte, reduceCtorEq]
      · simp only [*, put_slot, ↓reduceIte]
      · simp only [*, put_slot, dem_slot, ↓reduceIte, Nat.reduceEqDiff]
      · simp only [*, put_slot, dem_slot, ↓reduceIte, Nat.reduceEqDiff]
      · simp only [*, put_room, ↓reduceIte]
      · simp only [*, put_room, dem_room, ↓reduceIte, Nat.reduceEqDiff]
      · simp only [*, put_room, dem_room, ↓reduceIte, Nat.reduceEqDiff]
      · simp only [slotI, *, put_slot, ↓reduceIte, Int.toNat_natCast]
        omega
    | false =>
      have hs := spF_stop hb
      rw [hs] at hinv'
      have hns2 : i < e → kd ts i ≠ 13 := by rw [hinv']; exact hns'
      have hsf := hinv'.symm
      have hcase : (i = e) ∨ (i < e ∧ kd ts i ≠ 13) := by
        rcases (by omega : i = e ∨ i < e) with h | h
        · exact .inl h
        · exact .inr ⟨h, hns2 h⟩
      have hns3 := Hd.mk hns2
      clear hn hinv hinv' hb hns' hns2 hs
      rcases hcase with hse | ⟨hse, hk⟩
      · subst hse
        have g1 : ¬ (i : Int) < i := by omega
        have g1' : ¬ (i : Int) > i := by omega
        repeat' (first
    | simp only [*, go_nil, go_seq, go_cond, go_exit, go_xcode, go_region, go_ops_nil, go_ops, okG_some, gwD_bool, cwD_bool, gw_false, guardG, opG, inB, sval, stake, eats, eaters, get, cval, cval1, croom, St.taken, put_slot, put_room, dem_none, ↓reduceIte, Nat.reduceEqDiff, Nat.reduceLT, decide_true, decide_false, List.filterMap_cons, List.filterMap_nil, Option.bind_some, Option.map_some, List.getElem?_cons_zero, List.getElem?_cons_succ, List.contains_cons, List.contains_nil, Bool.or_false, Nat.reduceBEq, Bool.false_eq_true, dbin, dIntBin, row9, frz9, frzOf_def, frz_nil, beq_true, dcells, Bool.and_false, dStrBin]
    | (refine drW_intro (by kernel_rfl) ?_)
    | (refine gw_intro (fun h => ?_) (fun h => ?_) <;> (try simp only [beq_true, beq_false, Bool.not_eq_eq_eq_not, Bool.not_true, Bool.not_false, Bool.not_not, decide_eq_true_eq, decide_eq_false_iff_not, ge_iff_le, gt_iff_lt] at h)))
        refine hx _ _ ?_
        repeat' (first
    | simp only [*, go_seq, go_block, go_xblk, go_loop, ↓reduceIte]
    | (refine drW_intro (by kernel_rfl) ?_)
    | (refine gw_intro (fun h => ?_) (fun h => ?_) <;> (try simp only [beq_true, beq_false, Bool.not_eq_eq_eq_not, Bool.not_true, Bool.not_false, Bool.not_not, decide_eq_true_eq, decide_eq_false_iff_not, ge_iff_le, gt_iff_lt] at h)))
        refine loopH (fun s => s.slot 0 = .list (ts.map Tk.d) ∧ s.slot 8 = .int .i64 i ∧ s.slot 9 = .int .i64 i ∧ s.slot 10 = .int .i64 a ∧ s.room 10 = []) (fun _ => 0) ?_ ?_
        · refine ⟨?_, ?_, ?_, ?_, ?_⟩
          all_goals simp only [*, put_slot, put_room, ↓reduceIte, Nat.reduceEqDiff, reduceCtorEq]
        · clear h0 h8 h9 h10 r8 r9 r10 hx hr
          rintro s2 K2 ⟨h0, h8, h9, h10, r10⟩ hn hx hr
          have hle1 : i ≤ i := Nat.le_refl _
          repeat' (first
    | simp only [*, go_nil, go_seq, go_cond, go_exit, go_xcode, go_region, go_ops_nil, go_ops, okG_some, gwD_bool, cwD_bool, gw_false, guardG, opG, inB, sval, stake, eats, eaters, get, cval, cval1, croom, St.taken, put_slot, put_room, dem_none, ↓reduceIte, Nat.reduceEqDiff, Nat.reduceLT, decide_true, decide_false, List.filterMap_cons, List.filterMap_nil, Option.bind_some, Option.map_some, List.getElem?_cons_zero, List.getElem?_cons_succ, List.contains_cons, List.contains_nil, Bool.or_false, Nat.reduceBEq, Bool.false_eq_true, dbin, dIntBin, row9, frz9, frzOf_def, frz_nil, beq_true, dcells, Bool.and_false, gt_iff_lt, dStrBin]
    | (refine drW_intro (by kernel_rfl) ?_)
    | (refine gw_intro (fun h => ?_) (fun h => ?_) <;> (try simp only [beq_true, beq_false, Bool.not_eq_eq_eq_not, Bool.not_true, Bool.not_false, Bool.not_not, decide_eq_true_eq, decide_eq_false_iff_not, ge_iff_le, gt_iff_lt] at h)))
          refine hx _ _ ?_
          repeat' (first
    | simp only [*, go_seq, go_cond, go_retc, go_xblk, go_region, go_ops_nil, go_ops, okG_some, cwD_bool, gw_true, guardG, opG, inB, sval, stake, eats, eaters, get, St.taken, put_slot, put_room, put_box, dem_none, dem_slot, dem_box, dem_room, endQ, endR, endV, rvars, rvar, room1, ↓reduceIte, Nat.reduceEqDiff, Nat.reduceLT, decide_true, List.filterMap_cons, List.filterMap_nil, Option.map_some, List.contains_cons, List.contains_nil, List.map_cons, List.map_nil, beq_self_eq_true, Bool.or_false, Bool.or_true, Nat.reduceBEq, Bool.false_eq_true, dbin, dIntBin, row9, frz9, frzOf_def, frz_nil, pureB, leaf, leafN, List.take_nil, List.range_zero, Bool.and_false, and_self]
    | (refine drW_intro (by kernel_rfl) ?_)
    | (refine gw_intro (fun h => ?_) (fun h => ?_) <;> (try simp only [beq_true, beq_false, Bool.not_eq_eq_eq_not, Bool.not_true, Bool.not_false, Bool.not_not, decide_eq_true_eq, decide_eq_false_iff_not, ge_iff_le, gt_iff_lt] at h)))
      · have g1 : (i : Int) < e := by omega
        have g2 : (i : Int) < ts.length := by omega
        have bk : (kd ts i == 13) = false := beq_eq_false_iff_ne.2 hk
        have hg := tk_at ts i (by omega)
        have Hk := Hd.mk hk
        clear hk
        repeat' (first
    | simp only [*, go_nil, go_seq, go_cond, go_exit, go_xcode, go_region, go_ops_nil, go_ops, okG_some, gwD_bool, cwD_bool, gw_true, gw_false, guardG, opG, inB, sval, stake, eats, eaters, get, cval, cval1, croom, St.taken, put_slot, put_room, dem_none, ↓reduceIte, Nat.reduceEqDiff, Nat.reduceLT, reduceCtorEq, decide_true, List.filterMap_cons, List.filterMap_nil, Option.bind_some, Option.map_some, List.getElem?_cons_zero, List.getElem?_cons_succ, List.contains_cons, List.contains_nil, beq_self_eq_true, Bool.or_false, Nat.reduceBEq, Bool.false_eq_true, dbin, dIntBin, row9, frz9, frzOf_def, frz_nil, List.length_nil, List.length_cons, dcells, Nat.zero_add, Nat.reduceAdd, Bool.and_false, Int.natCast_nonneg, Int.toNat_natCast, and_self, Nat.add_zero, dStrBin, dp3, fa56_0, ia24]
    | (refine drW_intro (by kernel_rfl) ?_)
    | (refine gw_intro (fun h => ?_) (fun h => ?_) <;> (try simp only [beq_true, beq_false, Bool.not_eq_eq_eq_not, Bool.not_true, Bool.not_false, Bool.not_not, decide_eq_true_eq, decide_eq_false_iff_not, ge_iff_le, gt_iff_lt] at h)))
        refine hx _ _ ?_
        repeat' (first
    | simp only [*, go_seq, go_block, go_xblk, go_loop, ↓reduceIte]
    | (refine drW_intro (by kernel_rfl) ?_)
    | (refine gw_intro (fun h => ?_) (fun h => ?_) <;> (try simp only [beq_true, beq_false, Bool.not_eq_eq_eq_not, Bool.not_true, Bool.not_false, Bool.not_not, decide_eq_true_eq, decide_eq_false_iff_not, ge_iff_le, gt_iff_lt] at h)))
        refine loopH (fun s => ∃ (j : Nat) (rb : List Room), i < j ∧ j ≤ e ∧ s.slot 0 = .list (ts.map Tk.d) ∧ s.slot 8 = .int .i64 i ∧ s.slot 9 = .int .i64 j ∧ s.slot 10 = .int .i64 a ∧ s.room 8 = ra ∧ s.room 9 = rb ∧ Hd (NR ra ∧ NR rb) ∧ Hd (bkF (kd ts) i j = bkF (kd ts) i e))
          (fun s => slotI s 9) ?_ ?_
        · refine ⟨e, rb, hse, Nat.le_refl _, ?_, ?_, ?_, ?_, ?_, ?_, hNR, Hd.mk rfl⟩
          all_goals simp only [*, put_slot, put_room, ↓reduceIte, Nat.reduceEqDiff, reduceCtorEq]
        · clear h0 h8 h9 h10 r8 r9 r10 hx hr bk hg g1 g2 hNR
          rintro s2 K2 ⟨j, rc, hij, hje, h0, h8, h9, h10, r8, r9, hNR, hinv⟩ hn hx hr
          have hw : IntKind.i64.wrap ((j : Int) - 1) = ((j - 1 : Nat) : Int) := by rw [wrap64 _ (by omega) (by omega)]; omega
          have hg := tk_at ts (j - 1) (by omega)
          have hlt : ((j - 1 : Nat) : Int) < ts.length := by omega
          have hgt : (i : Int) < (j : Int) := by omega
          have hinv' : bkF (kd ts) i j = bkF (kd ts) i e := hinv
          have hes : ¬ e ≤ i := by omega
          by_cases hk : kd ts (j - 1) = 13
          · have bk : (kd ts (j - 1) == 13) = true := beq_iff_eq.2 hk
            have hne : i < j - 1 := by
              rcases (by omega : i < j - 1 ∨ i = j - 1) with h | h
              · exact h
              · have h2 : kd ts i ≠ 13 := Hk
                rw [h] at h2
                exact absurd hk h2
            have T := Hd.mk (show bkF (kd ts) i (j - 1) = bkF (kd ts) i e by rw [← bkF_step hij hk]; exact hinv')
            have N2 := Hd.mk (show NR ra ∧ NR [] from ⟨hNR.1, .inl rfl⟩)
            clear hinv hinv' hk
            repeat' (first
    | simp only [*, go_nil, go_seq, go_cond, go_block, go_blk, go_skip, go_region, go_ops_nil, go_ops, okG_some, gwD_bool, cwD_bool, gw_true, guardG, opG, inB, sval, stake, eats, eaters, get, cval, cval1, croom, St.taken, put_slot, put_room, dem_none, ↓reduceIte, Nat.reduceEqDiff, Nat.reduceLT, reduceCtorEq, decide_true, List.filterMap_cons, List.filterMap_nil, Option.bind_some, Option.map_some, List.getElem?_cons_zero, List.getElem?_cons_succ, List.contains_cons, List.contains_nil, beq_self_eq_true, Bool.or_false, Nat.reduceBEq, Bool.false_eq_true, dbin, dIntBin, row9, frz9, frzOf_def, frz_nil, List.length_nil, List.length_cons, dcells, Nat.zero_add, Nat.reduceAdd, Bool.and_false, Int.natCast_nonneg, Int.toNat_natCast, and_self, Nat.add_zero, gt_iff_lt, dStrBin, dp3, fa56_0, ia24]
    | (refine drW_intro (by kernel_rfl) ?_)
    | (refine gw_intro (fun h => ?_) (fun h => ?_) <;> (try simp only [beq_true, beq_false, Bool.not_eq_eq_eq_not, Bool.not_true, Bool.not_false, Bool.not_not, decide_eq_true_eq, decide_eq_false_iff_not, ge_iff_le, gt_iff_lt] at h)))
            refine hn _ ⟨j - 1, [], hne, by omega, ?_, ?_, ?_, ?_, ?_, ?_, N2, T⟩ ?_
            · simp only [*, put_slot, dem_slot, ↓reduceIte, reduceCtorEq]
            · simp only [*, put_slot, dem_slot, ↓reduceIte, Nat.reduceEqDiff]
            · simp only [*, put_slot, ↓reduceIte]
            · simp only [*, put_slot, dem_slot, ↓reduceIte, Nat.reduceEqDiff]
            · simp only [*, put_room, dem_room, ↓reduceIte, Nat.reduceEqDiff]
            · simp only [*, put_room, ↓reduceIte]
            · simp only [slotI, *, put_slot, ↓reduceIte, Int.toNat_natCast]
              omega
          · have bk : (kd ts (j - 1) == 13) = false := beq_eq_false_iff_ne.2 hk
            rw [bkF_stop (.inr hk)] at hinv'
            have hfin := hinv'.symm
            have hij2 : ¬ ((i : Int) = (j : Int)) := by omega
            have hij1 : ((i : Int) == (j : Int)) = false := beq_eq_false_iff_ne.2 hij2
            clear hinv hinv' hk
            repeat' (first
    | simp only [*, go_nil, go_seq, go_cond, go_exit, go_xcode, go_region, go_ops_nil, go_ops, okG_some, gwD_bool, cwD_bool, gw_true, gw_false, guardG, opG, inB, sval, stake, eats, eaters, get, cval, cval1, croom, St.taken, put_slot, put_room, dem_none, ↓reduceIte, Nat.reduceEqDiff, Nat.reduceLT, reduceCtorEq, decide_true, List.filterMap_cons, List.filterMap_nil, Option.bind_some, Option.map_some, List.getElem?_cons_zero, List.getElem?_cons_succ, List.contains_cons, List.contains_nil, beq_self_eq_true, Bool.or_false, Nat.reduceBEq, Bool.false_eq_true, dbin, dIntBin, row9, frz9, frzOf_def, frz_nil, List.length_nil, List.length_cons, dcells, Nat.zero_add, Nat.reduceAdd, Bool.and_false, Int.natCast_nonneg, Int.toNat_natCast, and_self, Nat.add_zero, gt_iff_lt, dStrBin, dp3, fa56_0, ia24]
    | (refine drW_intro (by kernel_rfl) ?_)
    | (refine gw_intro (fun h => ?_) (fun h => ?_) <;> (try simp only [beq_true, beq_false, Bool.not_eq_eq_eq_not, Bool.not_true, Bool.not_false, Bool.not_not, decide_eq_true_eq, decide_eq_false_iff_not, ge_iff_le, gt_iff_lt] at h)))
            refine hx _ _ ?_
            repeat' (first
    | simp only [*, go_seq, go_cond, go_skip, go_retc, go_xblk, go_region, go_ops_nil, go_ops, okG_some, cwD_bool, gw_false, guardG, opG, inB, sval, stake, eats, eaters, get, St.taken, put_slot, put_room, put_box, dem_none, dem_slot, dem_box, dem_room, endQ, endR, endV, rvars, rvar, room1, ↓reduceIte, Nat.reduceEqDiff, Nat.reduceLT, decide_true, List.filterMap_cons, List.filterMap_nil, Option.map_some, List.contains_cons, List.contains_nil, List.map_cons, List.map_nil, beq_self_eq_true, Bool.or_false, Bool.or_true, Nat.reduceBEq, Bool.false_eq_true, dbin, dIntBin, row9, frz9, frzOf_def, frz_nil, pureB, leaf, leafN, List.range_zero, Bool.and_false, and_true]
    | (refine drW_intro (by kernel_rfl) ?_)
    | (refine gw_intro (fun h => ?_) (fun h => ?_) <;> (try simp only [beq_true, beq_false, Bool.not_eq_eq_eq_not, Bool.not_true, Bool.not_false, Bool.not_not, decide_eq_true_eq, decide_eq_false_iff_not, ge_iff_le, gt_iff_lt] at h)))
            obtain ⟨n1, n2⟩ := (show NR ra ∧ NR rc from hNR)
            rcases n1 with rfl | rfl <;> rcases n2 with rfl | rfl <;> rfl
end Go.Av
