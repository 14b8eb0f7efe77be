/- The evaluator, in one text: over any program; no conditions but those that each law names. -/
import Derived.Test.YtaldmffahmomoaaAvtf
import Derived.Test.YtaldmffahmomoaaAvtd
import Derived.KernelRfl
set_option linter.unusedSimpArgs false
set_option linter.unusedVariables false
set_option linter.unusedSectionVars false
/- Chapter 19: the declarations of a part: the program's text. -/
set_option linter.unusedSimpArgs false
set_option linter.unusedVariables false
set_option linter.unusedSectionVars false
set_option maxRecDepth 100000
namespace Go.Av
open Go.Proofs Go.Proofs.Ytaldmffahmomoaa Go.RowKit
/-- Where a declaration ends. -/
def semiE (ts : List Tk) (e a : Nat) : Nat := untilF (kd ts) e (or2 17 17) a
def declsN (ts : List Tk) (e : Nat) : Nat → Nat → List De
  | 0, _ => []
  | n + 1, a => if a < e then
      (if kd ts a = 13 ∨ kd ts a = 17 then declsN ts e n (a + 1)
       else if kd ts a = 3 then declsN ts e n (atRuleF ts e a).2
       else if kd ts a = 1 ∧ (declF ts a (semiE ts e a)).2 = true then (declF ts a (semiE ts e a)).1 :: declsN ts e n (semiE ts e a) else declsN ts e n (semiE ts e a))
    else []
def declsF (ts : List Tk) (e a : Nat) : List De := declsN ts e (e - a) a
theorem semiE_pos {ts : List Tk} {e a : Nat} (h : a < e) (hk : kd ts a ≠ 17) : a < semiE ts e a ∧ semiE ts e a ≤ e := by
  have hp := behindF_pos (ks := kd ts) h
  have h1 : semiE ts e a = untilF (kd ts) e (or2 17 17) (behindF (kd ts) e a).1 := untilF_step h (by unfold or2; rw [beq_eq_false_iff_ne.2 hk]; rfl)
  have h2 := untilF_ge (ks := kd ts) (e := e) (or2 17 17) (behindF (kd ts) e a).1
  rw [h1]
  omega
theorem declsN_fuel {ts : List Tk} {e : Nat} : ∀ (n m a : Nat), e - a ≤ n → e - a ≤ m → declsN ts e n a = declsN ts e m a
  | 0, 0, _, _, _ => rfl
  | 0, m + 1, a, h, _ => by
    unfold declsN
    rw [if_neg (by omega)]
  | n + 1, 0, a, _, h => by
    unfold declsN
    rw [if_neg (by omega)]
  | n + 1, m + 1, a, h1, h2 => by
    unfold declsN
    by_cases h : a < e
    · rw [if_pos h, if_pos h]
      have p1 := atRuleF_pos (ts := ts) h
      rw [declsN_fuel n m (a + 1) (by omega) (by omega), declsN_fuel n m (atRuleF ts e a).2 (by omega) (by omega)]
      by_cases hk : kd ts a = 13 ∨ kd ts a = 17
      · rw [if_pos hk, if_pos hk]
      · have p2 := semiE_pos (ts := ts) h (fun hh => hk (.inr hh))
        rw [declsN_fuel n m (semiE ts e a) (by omega) (by omega)]
    · rw [if_neg h, if_neg h]
theorem declsF_end {ts : List Tk} {e a : Nat} (h : e ≤ a) : declsF ts e a = [] := by
  unfold declsF
  rw [show e - a = 0 by omega]
  rfl
theorem declsF_step {ts : List Tk} {e a : Nat} (h : a < e) : declsF ts e a =
    if kd ts a = 13 ∨ kd ts a = 17 then declsF ts e (a + 1)
       else if kd ts a = 3 then declsF ts e (atRuleF ts e a).2
       else if kd ts a = 1 ∧ (declF ts a (semiE ts e a)).2 = true then (declF ts a (semiE ts e a)).1 :: declsF ts e (semiE ts e a) else declsF ts e (semiE ts e a) := by
  have p1 := atRuleF_pos (ts := ts) h
  have e1 : declsF ts e a = declsN ts e ((e - a - 1) + 1) a := by unfold declsF; congr 1; omega
  rw [e1, declsN, if_pos h]
  unfold declsF
  rw [declsN_fuel (e - a - 1) (e - (a + 1)) (a + 1) (by omega) (by omega), declsN_fuel (e - a - 1) (e - (atRuleF ts e a).2) (atRuleF ts e a).2 (by omega) (by omega)]
  by_cases hk : kd ts a = 13 ∨ kd ts a = 17
  · rw [if_pos hk, if_pos hk]
  · have p2 := semiE_pos (ts := ts) h (fun hh => hk (.inr hh))
    rw [declsN_fuel (e - a - 1) (e - semiE ts e a) (semiE ts e a) (by omega) (by omega)]
theorem szDe (rs : List De) : szOk 4 (rs.map De.d) = true := by cases rs <;> rfl
theorem snocDe (rs : List De) (r : De) : rs.map De.d ++ [.agg [.str r.name, .int .i64 (r.fr : Nat), .int .i64 (r.to : Nat), .bool r.imp]] = (rs ++ [r]).map De.d := by simp [De.d]
set_option maxHeartbeats 16000000 in
theorem decls_L {ts : List Tk} (hT : TL ts) (fr to : Int) : ∃ r, callL Try.prog ext9 15 [Tks ts, .int .i64 fr, .int .i64 to] [] =
    some (.list ((declsF ts (cutF ts fr to).2 (cutF ts fr to).1).map De.d), [r], []) := by
  have hl := hT.len
  have hP := part_L ts hl fr to
  have hle := cutF_le ts fr to
  have hge := cutF_ge ts fr to
  have lN := TkLen ts
  generalize (cutF ts fr to).1 = a at *
  generalize (cutF ts fr to).2 = e at *
  refine ⟨if declsF ts e a = [] then .full else .own 41, ?_⟩
  obtain ⟨all, hall⟩ : ∃ all, Hid (declsF ts e a = all) := ⟨_, rfl⟩
  rw [hall.out]
  have hT' := Hd.mk hT
  clear hT
  refine callK (m := 64) (res := [6]) (rs := [.tmp 6]) rfl Try.func15 rfl rfl rfl rfl rfl ?_
  repeat' (first
    | simp only [*, go_seq, go_block, go_loop, go_region, go_ops_nil, go_ops, okG_some, guardG, opG, isPtr, inB, sval, stake, eats, eaters, get, cval, cval1, croom, St.taken, put_slot, put_room, put_ctr, dem_none, setBox_slot, setBox_room, entry_slot, entry_ctr, ↓reduceIte, Nat.reduceEqDiff, Nat.reduceLT, reduceCtorEq, decide_true, List.filterMap_cons, List.filterMap_nil, List.getD_cons_zero, List.getD_cons_succ, List.contains_cons, List.contains_nil, List.map_cons, List.map_nil, Bool.or_false, Bool.and_true, Nat.reduceBEq, Bool.false_eq_true, okR, callG, row9, frz9, frzOf_def, frz_nil, pureB, leaf, leafN, List.all_cons, List.all_nil, List.nil_append, List.append_nil, List.length_nil, Nat.reduceAdd, Bool.and_false]
    | (refine drW_intro (by kernel_rfl) ?_)
    | (refine gw_intro (fun h => ?_) (fun h => ?_) <;> (try simp only [beq_true, beq_false, Bool.not_eq_eq_eq_not, Bool.not_true, Bool.not_false, Bool.not_not, decide_eq_true_eq, decide_eq_false_iff_not, ge_iff_le, gt_iff_lt] at h)))
  refine loopH (fun st => ∃ (i : Nat) (done : List De), Hd (a ≤ i ∧ i ≤ e) ∧ st.slot 7 = .ptr 14 1 0 ∧ st.box 14 = some ⟨1, [.list (ts.map Tk.d), .int .i64 (i : Nat), .int .i64 (e : Nat)]⟩ ∧ st.slot 0 = .list (ts.map Tk.d) ∧ st.slot 6 = .list (done.map De.d) ∧
    ((Hd (done = []) ∧ st.room 6 = [.full]) ∨ (Hd (done ≠ []) ∧ st.room 6 = [.own 41])) ∧ Hd (a + done.length ≤ i) ∧ Hd (done ++ declsF ts e i = all))
    (fun st => match st.box 14 with | some ⟨_, [_, .int _ n, _]⟩ => e - n.toNat | _ => 0) ?_ ?_
  · refine ⟨a, [], Hd.mk ⟨Nat.le_refl _, hge⟩, ?_, ?_, ?_, ?_, .inl ⟨Hd.mk rfl, ?_⟩, Hd.mk (Nat.le_refl _), hall⟩
    all_goals simp only [*, put_slot, put_room, put_box, dem_slot, dem_box, dem_room, setBox_box, entry_slot, ↓reduceIte, Nat.reduceEqDiff, reduceCtorEq, List.getD_cons_zero, List.map_nil]
    all_goals rfl
  · rintro st K ⟨i, done, hai, h7, hbx, h0, h6, hrm, hdl, hinv⟩ hn hx hr
    obtain ⟨hai1, hai2⟩ := (show a ≤ i ∧ i ≤ e from hai)
    have hdl' : a + done.length ≤ i := hdl
    have hinv' : done ++ declsF ts e i = all := hinv
    have hE := ends_L ts i e
    by_cases hie : e ≤ i
    · rw [decide_eq_true hie] at hE
      rw [declsF_end hie, List.append_nil] at hinv'
      subst hinv'
      clear hinv hall
      repeat' (first
    | simp only [*, go_nil, go_seq, go_cond, go_exit, go_xcode, go_region, go_ops_nil, go_ops, okG_some, okB_some, cwD_bool, gw_false, guardG, opG, isPtr, inB, sval, stake, eats, eaters, get, St.taken, put_slot, put_box, dem_none, ↓reduceIte, Nat.reduceLT, decide_true, List.filterMap_cons, List.filterMap_nil, Option.map_some, List.contains_cons, List.contains_nil, List.map_cons, List.map_nil, Bool.or_false, Nat.reduceBEq, Bool.false_eq_true, row9, frz9, frzOf_def, frz_nil, Bool.not_true, List.all_nil, dun, Bool.and_false, and_self, pid0, stepPtr]
    | (refine drW_intro (by kernel_rfl) ?_)
    | (refine gw_intro (fun h => ?_) (fun h => ?_) <;> (try simp only [beq_true, beq_false, Bool.not_eq_eq_eq_not, Bool.not_true, Bool.not_false, Bool.not_not, decide_eq_true_eq, decide_eq_false_iff_not, ge_iff_le, gt_iff_lt] at h)))
      refine hx _ _ ?_
      repeat' (first
    | simp only [*, go_seq, go_retc, go_xblk, go_region, go_ops_nil, go_ops, okG_some, guardG, opG, inB, sval, stake, eats, eaters, get, St.taken, put_slot, put_room, put_box, dem_box, setBox_slot, setBox_room, setBox_box, endQ, endR, endV, rvars, rvar, room1, ↓reduceIte, Nat.reduceEqDiff, Nat.reduceLT, decide_true, List.filterMap_cons, List.filterMap_nil, List.contains_cons, List.contains_nil, List.map_nil, beq_self_eq_true, Bool.or_false, Nat.reduceBEq, Bool.false_eq_true, row9, frz9, frzOf_def, frz_nil, pureB, leaf, leafN, List.range_zero, Bool.and_false, and_true]
    | (refine drW_intro (by kernel_rfl) ?_)
    | (refine gw_intro (fun h => ?_) (fun h => ?_) <;> (try simp only [beq_true, beq_false, Bool.not_eq_eq_eq_not, Bool.not_true, Bool.not_false, Bool.not_not, decide_eq_true_eq, decide_eq_false_iff_not, ge_iff_le, gt_iff_lt] at h)))
      rcases hrm with ⟨hz, er⟩ | ⟨hz, er⟩ <;> rw [er]
      · have hz' : done = [] := hz
        rw [if_pos hz']; rfl
      · have hz' : done ≠ [] := hz
        rw [if_neg hz']; rfl
    · rw [decide_eq_false hie] at hE
      have hlt : i < e := by omega
      have het : e ≤ ts.length := by rcases hle with h | h <;> omega
      have hro : RO ts i e := ⟨hl, .inl het⟩
      have j13 := isK_L hro 13
      have j17 := isK_L hro 17
      have j3 := isK_L hro 3
      have j1 := isK_L hro 1
      rw [isB_of hlt] at j13 j17 j3 j1
      have hw := wrapS i (by omega)
      have hfit : (done.map De.d).length ≤ 1073741823 := by rw [List.length_map]; omega
      have hsz := szDe done
      rw [declsF_step hlt] at hinv'
      have G := Hd.mk (show a ≤ i + 1 ∧ i + 1 ≤ e by omega)
      have D1 := Hd.mk (show a + done.length ≤ i + 1 by omega)
      have hTL : TL ts := hT'
      by_cases hb : kd ts i = 13 ∨ kd ts i = 17
      · rw [if_pos hb] at hinv'
        have T := Hd.mk hinv'
        have hc : decide (kd ts i = 13) = true ∨ (decide (kd ts i = 13) = false ∧ decide (kd ts i = 17) = true) := by
          rcases hb with h | h
          · exact .inl (decide_eq_true h)
          · exact .inr ⟨decide_eq_false (by omega), decide_eq_true h⟩
        rcases hc with c | ⟨c, c2⟩
        · rw [c] at j13
          clear hinv hinv' hb hie hai hdl hdl' hro hTL hall c j17 j3 j1
          repeat' (first
    | simp only [*, go_nil, go_seq, go_cond, go_block, go_blk, go_skip, go_region, go_ops_nil, go_ops, okG_some, okB_some, cwD_bool, gw_true, guardG, opG, isPtr, inB, sval, stake, eats, eaters, get, cval, cval1, St.taken, put_slot, put_room, put_box, put_none, dem_none, dem_slot, dem_box, setBox_slot, setBox_box, ↓reduceIte, Nat.reduceEqDiff, Nat.reduceLT, Nat.reduceLeDiff, decide_true, List.filterMap_cons, List.filterMap_nil, Option.map_some, List.getElem?_cons_zero, List.getElem?_cons_succ, List.contains_cons, List.contains_nil, List.map_cons, List.map_nil, Bool.or_false, Bool.and_true, Nat.reduceBEq, Bool.false_eq_true, dbin, dIntBin, row9, frz9, frzOf_def, frz_nil, Bool.not_false, pureB, leaf, leafN, List.all_cons, List.all_nil, List.nil_append, List.cons_append, List.length_nil, List.length_cons, dun, List.take_zero, List.drop_zero, List.take_succ_cons, List.drop_succ_cons, dcells, Nat.zero_add, Nat.reduceAdd, stepBox, Bool.and_false, and_self, ty3, dp3, fp51_1, pid0, stepPtr]
    | (refine drW_intro (by kernel_rfl) ?_)
    | (refine gw_intro (fun h => ?_) (fun h => ?_) <;> (try simp only [beq_true, beq_false, Bool.not_eq_eq_eq_not, Bool.not_true, Bool.not_false, Bool.not_not, decide_eq_true_eq, decide_eq_false_iff_not, ge_iff_le, gt_iff_lt] at h)))
          refine hn _ ⟨i + 1, done, G, ?_, ?_, ?_, ?_, ?_, D1, T⟩ ?_
          · simp only [*, put_slot, dem_slot, setBox_slot, ↓reduceIte, Nat.reduceEqDiff]
          · simp only [*, setBox_box, ↓reduceIte]
          · simp only [*, put_slot, dem_slot, setBox_slot, ↓reduceIte, reduceCtorEq]
          · simp only [*, put_slot, dem_slot, setBox_slot, ↓reduceIte, Nat.reduceEqDiff]
          · simp only [*, put_room, dem_room, setBox_room, ↓reduceIte, Nat.reduceEqDiff]
          · simp only [*, setBox_box, ↓reduceIte]
            omega
        · rw [c] at j13
          rw [c2] at j17
          clear hinv hinv' hb hie hai hdl hdl' hro hTL hall c c2 j3 j1
          repeat' (first
    | simp only [*, go_nil, go_seq, go_cond, go_block, go_blk, go_skip, go_region, go_ops_nil, go_ops, okG_some, okB_some, cwD_bool, gw_true, gw_false, guardG, opG, isPtr, inB, sval, stake, eats, eaters, get, cval, cval1, St.taken, put_slot, put_room, put_box, put_none, dem_none, dem_slot, dem_box, setBox_slot, setBox_box, ↓reduceIte, Nat.reduceEqDiff, Nat.reduceLT, Nat.reduceLeDiff, decide_true, List.filterMap_cons, List.filterMap_nil, Option.map_some, List.getElem?_cons_zero, List.getElem?_cons_succ, List.contains_cons, List.contains_nil, List.map_cons, List.map_nil, Bool.or_false, Bool.and_true, Nat.reduceBEq, Bool.false_eq_true, dbin, dIntBin, row9, frz9, frzOf_def, frz_nil, Bool.not_false, pureB, leaf, leafN, List.all_cons, List.all_nil, List.nil_append, List.cons_append, List.length_nil, List.length_cons, dun, List.take_zero, List.drop_zero, List.take_succ_cons, List.drop_succ_cons, dcells, Nat.zero_add, Nat.reduceAdd, stepBox, Bool.and_false, and_self, ty3, dp3, fp51_1, pid0, stepPtr]
    | (refine drW_intro (by kernel_rfl) ?_)
    | (refine gw_intro (fun h => ?_) (fun h => ?_) <;> (try simp only [beq_true, beq_false, Bool.not_eq_eq_eq_not, Bool.not_true, Bool.not_false, Bool.not_not, decide_eq_true_eq, decide_eq_false_iff_not, ge_iff_le, gt_iff_lt] at h)))
          refine hn _ ⟨i + 1, done, G, ?_, ?_, ?_, ?_, ?_, D1, T⟩ ?_
          · simp only [*, put_slot, dem_slot, setBox_slot, ↓reduceIte, Nat.reduceEqDiff]
          · simp only [*, setBox_box, ↓reduceIte]
          · simp only [*, put_slot, dem_slot, setBox_slot, ↓reduceIte, reduceCtorEq]
          · simp only [*, put_slot, dem_slot, setBox_slot, ↓reduceIte, Nat.reduceEqDiff]
          · simp only [*, put_room, dem_room, setBox_room, ↓reduceIte, Nat.reduceEqDiff]
          · simp only [*, setBox_box, ↓reduceIte]
            omega
      · rw [if_neg hb] at hinv'
        have h13 : kd ts i ≠ 13 := fun h => hb (.inl h)
        have h17 : kd ts i ≠ 17 := fun h => hb (.inr h)
        rw [decide_eq_false h13] at j13
        rw [decide_eq_false h17] at j17
        clear hb h13
        by_cases h3 : kd ts i = 3
        · rw [decide_eq_true h3] at j3
          rw [if_pos h3] at hinv'
          have hA := atRule_L hTL het hlt
          have hpos := atRuleF_pos (ts := ts) hlt
          generalize (atRuleF ts e i).1.d = xd at *
          generalize (atRuleF ts e i).2 = nx at *
          have T := Hd.mk hinv'
          have G2 := Hd.mk (show a ≤ nx ∧ nx ≤ e by omega)
          have D2 := Hd.mk (show a + done.length ≤ nx by omega)
          clear hinv hinv' h3 h17 hie hai hdl hdl' hro hTL hall G D1 j1
          repeat' (first
    | simp only [*, go_nil, go_seq, go_cond, go_block, go_blk, go_skip, go_region, go_ops_nil, go_ops, okG_some, okB_some, cwD_bool, gw_true, gw_false, guardG, opG, isPtr, inB, sval, stake, eats, eaters, get, cval, cval1, St.taken, put_slot, put_room, put_box, dem_none, dem_slot, dem_box, setBox_slot, setBox_box, ↓reduceIte, Nat.reduceEqDiff, Nat.reduceLT, decide_true, List.filterMap_cons, List.filterMap_nil, Option.map_some, List.getElem?_cons_zero, List.getElem?_cons_succ, List.contains_cons, List.contains_nil, List.map_cons, List.map_nil, Bool.or_false, Bool.and_true, Nat.reduceBEq, Bool.false_eq_true, row9, frz9, frzOf_def, frz_nil, Bool.not_false, pureB, leaf, leafN, List.all_cons, List.all_nil, dun, Nat.zero_add, Bool.and_false, and_self, dp3, fp51_1, pid0, stepPtr]
    | (refine drW_intro (by kernel_rfl) ?_)
    | (refine gw_intro (fun h => ?_) (fun h => ?_) <;> (try simp only [beq_true, beq_false, Bool.not_eq_eq_eq_not, Bool.not_true, Bool.not_false, Bool.not_not, decide_eq_true_eq, decide_eq_false_iff_not, ge_iff_le, gt_iff_lt] at h)))
          refine hn _ ⟨nx, done, G2, ?_, ?_, ?_, ?_, ?_, D2, T⟩ ?_
          · simp only [*, put_slot, dem_slot, setBox_slot, ↓reduceIte, Nat.reduceEqDiff]
          · simp only [*, put_box, setBox_box, ↓reduceIte]
          · simp only [*, put_slot, dem_slot, setBox_slot, ↓reduceIte, reduceCtorEq]
          · simp only [*, put_slot, dem_slot, setBox_slot, ↓reduceIte, Nat.reduceEqDiff]
          · simp only [*, put_room, dem_room, setBox_room, ↓reduceIte, Nat.reduceEqDiff]
          · simp only [*, put_box, setBox_box, ↓reduceIte]
            omega
        · rw [decide_eq_false h3] at j3
          rw [if_neg h3] at hinv'
          have hU := until_L hro [17] (by simp)
          have hU' : callL Try.prog ext9 30 [.ptr 1000000 0 0, .list [.int .i64 17]] [(⟨0, [.list (ts.map Tk.d), .int .i64 ((i : Nat) : Int), .int .i64 ((e : Nat) : Int)]⟩ : Bx)] = some (.tuple [], [], [(⟨0, [.list (ts.map Tk.d), .int .i64 ((semiE ts e i : Nat) : Int), .int .i64 ((e : Nat) : Int)]⟩ : Bx)]) := by
            have e1 : inK [17] = or2 17 17 := by
              funext k
              unfold inK or2
              simp only [List.contains_cons, List.contains_nil, Bool.or_false, Bool.or_self]
            rw [e1] at hU
            exact hU
          have hpos := semiE_pos hlt h17
          have hD := decl_L hTL (show semiE ts e i ≤ ts.length by omega) hpos.1
          generalize declF ts i (semiE ts e i) = q at *
          generalize semiE ts e i = nx at *
          obtain ⟨x, ok⟩ := q
          have hD' : callL Try.prog ext9 34 [Tks ts, .int .i64 (i : Nat), .int .i64 (nx : Nat)] [] = some (.tuple [.agg [.str x.name, .int .i64 (x.fr : Nat), .int .i64 (x.to : Nat), .bool x.imp], .bool ok], [.no, .no], []) := hD
          have G2 := Hd.mk (show a ≤ nx ∧ nx ≤ e by omega)
          have D2 := Hd.mk (show a + done.length ≤ nx by omega)
          have D3 := Hd.mk (show a + (done ++ [x]).length ≤ nx by simp; omega)
          dsimp only at hinv'
          clear h3 h17 hie hai hdl hdl' hro hTL hall G D1 hU hD
          by_cases h1 : kd ts i = 1
          · rw [decide_eq_true h1] at j1
            cases ok with
            | true =>
              rw [if_pos ⟨h1, rfl⟩] at hinv'
              have T := Hd.mk (show (done ++ [x]) ++ declsF ts e nx = all by rw [← hinv']; simp)
              have hap := snocDe done x
              have hrm2 : st.room 6 = [.full] ∨ st.room 6 = [.own 41] := by
                rcases hrm with h | h
                · exact .inl h.2
                · exact .inr h.2
              clear hinv hinv' h1 hrm D2
              rcases hrm2 with hrm2 | hrm2
              all_goals
                repeat' (first
    | simp only [*, go_nil, go_seq, go_cond, go_block, go_blk, go_skip, go_region, go_ops_nil, go_ops, okG_some, okB_some, cwD_bool, gw_true, gw_false, guardG, opG, isPtr, inB, sval, stake, eats, eaters, get, cval, cval1, St.taken, put_slot, put_room, put_box, put_ctr, put_none, dem_none, dem_slot, dem_box, dem_ctr, dem_room, dem_room1, setBox_slot, setBox_room, setBox_ctr, setBox_box, ↓reduceIte, Nat.reduceEqDiff, Nat.reduceLT, Nat.reduceLeDiff, reduceCtorEq, decide_true, List.filterMap_cons, List.filterMap_nil, Option.map_some, List.getElem?_cons_zero, List.getElem?_cons_succ, List.contains_cons, List.contains_nil, List.map_cons, List.map_nil, beq_self_eq_true, Bool.or_false, Bool.or_true, Bool.and_true, Nat.reduceBEq, Bool.false_eq_true, okR, callG, row9, frz9, frzOf_def, frz_nil, Bool.not_false, pureB, leaf, leafN, List.all_cons, List.all_nil, List.nil_append, List.append_nil, List.length_nil, List.length_cons, dun, List.take_zero, List.drop_zero, List.drop_succ_cons, dcells, Nat.zero_add, Nat.reduceAdd, stepBox, Bool.and_false, and_true, and_self, or_true, or_false, szOk_cons, List.cons.injEq, List.getElem?_toArray, dp3, bs44, ty41, dp41, zr41, ap35, bs35, fp51_1, pid0, Nat.le_refl, stepPtr]
    | (refine drW_intro (by kernel_rfl) ?_)
    | (refine gw_intro (fun h => ?_) (fun h => ?_) <;> (try simp only [beq_true, beq_false, Bool.not_eq_eq_eq_not, Bool.not_true, Bool.not_false, Bool.not_not, decide_eq_true_eq, decide_eq_false_iff_not, ge_iff_le, gt_iff_lt] at h)))
                refine hn _ ⟨nx, done ++ [x], G2, ?_, ?_, ?_, ?_, .inr ⟨Hd.mk (by simp), ?_⟩, D3, T⟩ ?_
                · simp only [*, put_slot, dem_slot, setBox_slot, ↓reduceIte, Nat.reduceEqDiff]
                · simp only [*, put_box, dem_box, setBox_box, ↓reduceIte, Nat.reduceEqDiff]
                · simp only [*, put_slot, dem_slot, setBox_slot, ↓reduceIte, reduceCtorEq]
                · simp only [*, put_slot, ↓reduceIte]
                · simp only [*, put_room, ↓reduceIte]
                · simp only [*, put_box, dem_box, setBox_box, ↓reduceIte, Nat.reduceEqDiff]
                  omega
            | false =>
              rw [if_neg (by simp)] at hinv'
              have T := Hd.mk hinv'
              clear hinv hinv' h1 D3
              repeat' (first
    | simp only [*, go_nil, go_seq, go_cond, go_block, go_blk, go_skip, go_region, go_ops_nil, go_ops, okG_some, okB_some, cwD_bool, gw_true, gw_false, guardG, opG, isPtr, inB, sval, stake, eats, eaters, get, cval, cval1, St.taken, put_slot, put_room, put_box, put_ctr, put_none, dem_none, dem_slot, dem_box, dem_ctr, dem_room1, setBox_slot, setBox_room, setBox_ctr, setBox_box, ↓reduceIte, Nat.reduceEqDiff, Nat.reduceLT, reduceCtorEq, decide_true, List.filterMap_cons, List.filterMap_nil, Option.map_some, List.getElem?_cons_zero, List.getElem?_cons_succ, List.contains_cons, List.contains_nil, List.map_cons, List.map_nil, beq_self_eq_true, Bool.or_false, Bool.or_true, Bool.and_true, Nat.reduceBEq, Bool.false_eq_true, okR, callG, row9, frz9, frzOf_def, frz_nil, Bool.not_false, pureB, leaf, leafN, List.all_cons, List.all_nil, List.nil_append, List.append_nil, List.length_nil, List.length_cons, dun, List.take_zero, List.drop_zero, List.drop_succ_cons, dcells, Nat.zero_add, Nat.reduceAdd, stepBox, Bool.and_false, and_self, dp3, bs44, ty41, zr41, fp51_1, pid0, Nat.le_refl, stepPtr]
    | (refine drW_intro (by kernel_rfl) ?_)
    | (refine gw_intro (fun h => ?_) (fun h => ?_) <;> (try simp only [beq_true, beq_false, Bool.not_eq_eq_eq_not, Bool.not_true, Bool.not_false, Bool.not_not, decide_eq_true_eq, decide_eq_false_iff_not, ge_iff_le, gt_iff_lt] at h)))
              refine hn _ ⟨nx, done, G2, ?_, ?_, ?_, ?_, ?_, D2, T⟩ ?_
              · simp only [*, put_slot, dem_slot, setBox_slot, ↓reduceIte, Nat.reduceEqDiff]
              · simp only [*, put_box, dem_box, setBox_box, ↓reduceIte, Nat.reduceEqDiff]
              · simp only [*, put_slot, dem_slot, setBox_slot, ↓reduceIte, reduceCtorEq]
              · simp only [*, put_slot, dem_slot, setBox_slot, ↓reduceIte, Nat.reduceEqDiff]
              · simp only [*, put_room, dem_room, dem_room1, setBox_room, ↓reduceIte, Nat.reduceEqDiff]
              · simp only [*, put_box, dem_box, setBox_box, ↓reduceIte, Nat.reduceEqDiff]
                omega
          · rw [decide_eq_false h1] at j1
            rw [if_neg (fun hh => h1 hh.1)] at hinv'
            have T := Hd.mk hinv'
            clear hinv hinv' h1 D3 hD'
            repeat' (first
    | simp only [*, go_nil, go_seq, go_cond, go_block, go_blk, go_skip, go_region, go_ops_nil, go_ops, okG_some, okB_some, cwD_bool, gw_true, gw_false, guardG, opG, isPtr, inB, sval, stake, eats, eaters, get, cval, cval1, St.taken, put_slot, put_room, put_box, dem_none, dem_slot, dem_box, setBox_slot, setBox_box, ↓reduceIte, Nat.reduceEqDiff, Nat.reduceLT, decide_true, List.filterMap_cons, List.filterMap_nil, Option.map_some, List.getElem?_cons_zero, List.getElem?_cons_succ, List.contains_cons, List.contains_nil, List.map_cons, List.map_nil, Bool.or_false, Bool.and_true, Nat.reduceBEq, Bool.false_eq_true, row9, frz9, frzOf_def, frz_nil, Bool.not_false, pureB, leaf, leafN, List.all_cons, List.all_nil, dun, Nat.zero_add, Bool.and_false, and_self, dp3, bs44, fp51_1, pid0, stepPtr]
    | (refine drW_intro (by kernel_rfl) ?_)
    | (refine gw_intro (fun h => ?_) (fun h => ?_) <;> (try simp only [beq_true, beq_false, Bool.not_eq_eq_eq_not, Bool.not_true, Bool.not_false, Bool.not_not, decide_eq_true_eq, decide_eq_false_iff_not, ge_iff_le, gt_iff_lt] at h)))
            refine hn _ ⟨nx, done, G2, ?_, ?_, ?_, ?_, ?_, D2, T⟩ ?_
            · simp only [*, put_slot, dem_slot, setBox_slot, ↓reduceIte, Nat.reduceEqDiff]
            · simp only [*, put_box, setBox_box, ↓reduceIte]
            · simp only [*, put_slot, dem_slot, setBox_slot, ↓reduceIte, reduceCtorEq]
            · simp only [*, put_slot, dem_slot, setBox_slot, ↓reduceIte, Nat.reduceEqDiff]
            · simp only [*, put_room, dem_room, setBox_room, ↓reduceIte, Nat.reduceEqDiff]
            · simp only [*, put_box, setBox_box, ↓reduceIte]
              omega
end Go.Av
/- Chapter 19, plain: the tokens of a text that is put together of pieces, each of which is told by itself. No program in sight. -/
set_option linter.unusedVariables false
set_option linter.unusedSimpArgs false
namespace Go.Av
open Go.Proofs Go.Proofs.Ytaldmffahmomoaa
/-- What is at a place, by what is left from there on. -/
theorem lt_drop {l : List Int} {a i : Nat} : a + i < l.length ↔ i < (l.drop a).length := by rw [List.length_drop]; omega
theorem getD_drop {l : List Int} {a i : Nat} : l.getD (a + i) 0 = (l.drop a).getD i 0 := by simp [List.getD_eq_getElem?_getD, List.getElem?_drop]
theorem isC_drop (l : List Int) (a i : Nat) (c : Int) : isC l (a + i) c = isC (l.drop a) i c := by
  unfold isC
  rw [getD_drop, decide_eq_decide.2 lt_drop]
theorem atB_drop (p : Int → Bool) (l : List Int) (a i : Nat) : atB p l (a + i) = atB p (l.drop a) i := by
  unfold atB
  rw [getD_drop, decide_eq_decide.2 lt_drop]
theorem isC_drop0 (l : List Int) (a : Nat) (c : Int) : isC l a c = isC (l.drop a) 0 c := isC_drop l a 0 c
theorem atB_drop0 (p : Int → Bool) (l : List Int) (a : Nat) : atB p l a = atB p (l.drop a) 0 := atB_drop p l a 0
theorem isC_zero (x : Int) (r : List Int) (c : Int) : isC (x :: r) 0 c = (x == c) := by simp [isC]
theorem isC_succ (x : Int) (r : List Int) (i : Nat) (c : Int) : isC (x :: r) (i + 1) c = isC r i c := by simp [isC]
theorem atB_zero (p : Int → Bool) (x : Int) (r : List Int) : atB p (x :: r) 0 = p x := by simp [atB]
theorem atB_succ (p : Int → Bool) (x : Int) (r : List Int) (i : Nat) : atB p (x :: r) (i + 1) = atB p r i := by simp [atB]
theorem isC_nil (i : Nat) (c : Int) : isC [] i c = false := by simp [isC]
theorem atB_nil (p : Int → Bool) (i : Nat) : atB p [] i = false := by simp [atB]
theorem escB_no {l : List Int} {a : Nat} {x : Int} {r : List Int} (h : l.drop a = x :: r) (hx : (x == 92) = false) : escB l a = false := by
  unfold escB
  rw [isC_drop0, h, isC_zero, hx, Bool.false_and]
theorem behF_no {l : List Int} {a : Nat} {x : Int} {r : List Int} (h : l.drop a = x :: r) (hx : (x == 47) = false) : behF l a = a := by
  unfold behF
  cases hk : l.length - a with
  | zero => rfl
  | succ k =>
    rw [behN, if_neg]
    rw [isC_drop0, h, isC_zero, hx, Bool.false_and]
    simp
theorem len_of {l : List Int} {a : Nat} {x : Int} {r : List Int} (h : l.drop a = x :: r) : a < l.length := by
  have := congrArg List.length h
  rw [List.length_drop, List.length_cons] at this
  omega
theorem at_of {l : List Int} {a : Nat} {x : Int} {r : List Int} (h : l.drop a = x :: r) : l.getD a 0 = x := by
  have := getD_drop (l := l) (a := a) (i := 0)
  rw [h] at this
  simpa using this
theorem drop_more {l : List Int} {a : Nat} {s r : List Int} (h : l.drop a = s ++ r) : l.drop (a + s.length) = r := by
  rw [← List.drop_drop, h, List.drop_left]
/-- A token at a character that is no slash. -/
theorem nextF_at {l : List Int} {a : Nat} {x : Int} {r : List Int} (h : l.drop a = x :: r) (hx : (x == 47) = false) : nextF l a = nextC l a x := by
  unfold nextF
  rw [behF_no h hx, if_neg (by have := len_of h; omega), at_of h]
theorem nextF_end {l : List Int} {a : Nat} (h : l.length ≤ a) : nextF l a = ⟨0, l.length, l.length, [], [], false⟩ := by
  unfold nextF
  have : behF l a = a := by unfold behF; rw [show l.length - a = 0 by omega]; rfl
  rw [this, if_pos h]
/-- A name that is told by its characters alone. -/
theorem namesN_run {l : List Int} : ∀ (s : List Int) (k a : Nat) (acc r : List Int), l.drop a = s ++ r → s.all nmC = true → atB nmC r 0 = false → isC r 0 92 = false → s.length ≤ k → namesN l k a acc = (acc ++ s, a + s.length)
  | [], k, a, acc, r, h, _, h1, h2, _ => by
    have e1 : atB nmC l a = false := by rw [atB_drop0, h]; exact h1
    have e2 : escB l a = false := by unfold escB; rw [isC_drop0, h]; rw [show ([] : List Int) ++ r = r from rfl, h2, Bool.false_and]
    cases k with
    | zero => simp [namesN]
    | succ k => rw [namesN, e1, e2]; simp
  | x :: s, 0, a, acc, r, h, _, _, _, hk => by simp at hk
  | x :: s, k + 1, a, acc, r, h, ha, h1, h2, hk => by
    simp only [List.all_cons, Bool.and_eq_true] at ha
    have e1 : atB nmC l a = true := by rw [atB_drop0, h, List.cons_append, atB_zero]; exact ha.1
    rw [namesN, if_pos e1, at_of (h.trans (List.cons_append ..)), namesN_run s k (a + 1) (acc ++ [x]) r (by rw [← List.drop_drop, h]; rfl) ha.2 h1 h2 (by simpa using hk)]
    simp only [List.append_assoc, List.singleton_append, List.length_cons, Prod.mk.injEq, true_and]
    omega
theorem namesF_run {l : List Int} {a : Nat} {s r : List Int} (h : l.drop a = s ++ r) (hs : s.all nmC = true) (h1 : atB nmC r 0 = false) (h2 : isC r 0 92 = false) : namesF l a = (s, a + s.length) := by
  unfold namesF
  rw [namesN_run s _ a [] r h hs h1 h2 (by have := congrArg List.length h; rw [List.length_drop, List.length_append] at this; omega)]
  rfl
structure Pc where
  chars : List Int
  kind : Int
  text : List UInt8
  num : List UInt8
  whole : Bool
def Pc.tk (p : Pc) (a : Nat) : Tk := ⟨p.kind, a, a + p.chars.length, p.text, p.num, p.whole⟩
def Fits (p : Pc) (r0 : List Int → Prop) : Prop := ∀ (l : List Int) (a : Nat) (r : List Int), l.drop a = p.chars ++ r → r0 r → nextF l a = p.tk a
/-- A character that closes a name. -/
def endsName (r : List Int) : Prop := atB nmC r 0 = false ∧ isC r 0 92 = false
theorem sign_fits (c : Int) (k : Int) (hk : kdS.getD ((sgFrom c 9 0).getD 0) 0 = k) (hc : (sgFrom c 9 0).isSome = true) (ho : c = 40 ∨ c = 41 ∨ c = 91 ∨ c = 93 ∨ c = 123 ∨ c = 125 ∨ c = 44 ∨ c = 58 ∨ c = 59) : Fits ⟨[c], k, [], [], false⟩ fun _ => True := by
  intro l a r h _
  have h' : l.drop a = c :: r := h
  have e : signTk c a = ⟨k, a, a + 1, [], [], false⟩ := by
    unfold signTk
    obtain ⟨i, hi⟩ := Option.isSome_iff_exists.1 hc
    rw [hi] at hk ⊢
    rw [← hk]
    rfl
  have e1 : ∀ c', isC l a c' = (c == c') := fun c' => by rw [isC_drop0, h', isC_zero]
  have e2 : ∀ p, atB p l a = p c := fun p => by rw [atB_drop0, h', atB_zero]
  have e3 : escB l a = false := escB_no h' (by rcases ho with rfl | rfl | rfl | rfl | rfl | rfl | rfl | rfl | rfl <;> rfl)
  rw [nextF_at h' (by rcases ho with rfl | rfl | rfl | rfl | rfl | rfl | rfl | rfl | rfl <;> rfl)]
  unfold nextC nextB
  have n1 : numB l a = false := by
    unfold numB
    rw [e1, e1, e2, e1]
    rcases ho with rfl | rfl | rfl | rfl | rfl | rfl | rfl | rfl | rfl <;> rfl
  have n2 : nameB l a = false := by
    unfold nameB
    rw [e1, e2, e3]
    rcases ho with rfl | rfl | rfl | rfl | rfl | rfl | rfl | rfl | rfl <;> rfl
  rw [n1, n2, e]
  rcases ho with rfl | rfl | rfl | rfl | rfl | rfl | rfl | rfl | rfl <;> rfl
theorem delim_fits (c : Int) (ho : c = 61 ∨ c = 33) : Fits ⟨[c], 9, textS [c], [], false⟩ fun _ => True := by
  intro l a r h _
  have h' : l.drop a = c :: r := h
  have e1 : ∀ c', isC l a c' = (c == c') := fun c' => by rw [isC_drop0, h', isC_zero]
  have e2 : ∀ p, atB p l a = p c := fun p => by rw [atB_drop0, h', atB_zero]
  have e3 : escB l a = false := escB_no h' (by rcases ho with rfl | rfl <;> rfl)
  rw [nextF_at h' (by rcases ho with rfl | rfl <;> rfl)]
  unfold nextC nextB
  have n1 : numB l a = false := by
    unfold numB
    rw [e1, e1, e2, e1]
    rcases ho with rfl | rfl <;> rfl
  have n2 : nameB l a = false := by
    unfold nameB
    rw [e1, e2, e3]
    rcases ho with rfl | rfl <;> rfl
  rw [n1, n2]
  rcases ho with rfl | rfl <;> rfl
theorem space_fits : Fits ⟨[32], 13, [], [], false⟩ fun r => atB spC r 0 = false := by
  intro l a r h hr
  have h' : l.drop a = 32 :: r := h
  rw [nextF_at h' rfl]
  unfold nextC nextB
  have e : spRun l a = a + 1 := by
    unfold spRun
    have hp : ∀ b, l.length ≤ b → atB spC l b = false := fun b hb => by simp [atB, Nat.not_lt.2 hb]
    rw [runF_step hp (by rw [atB_drop0, h', atB_zero]; rfl), runF_stop]
    rw [atB_drop0, show l.drop (a + 1) = r from drop_more (s := [32]) h']
    exact hr
  rw [e]
  rfl
/-- A letter that a name begins with. -/
def lets (c : Int) : Bool := stC c && nmC c && !(spC c) && c != 34 && c != 39 && c != 43 && c != 45 && c != 46 && c != 47 && c != 60 && c != 64 && c != 35 && !(dgC c)
theorem name_first {c : Int} {s r l : List Int} {a : Nat} (h : l.drop a = c :: s ++ r) (hc : lets c = true) : nextF l a = calledF l a := by
  unfold lets at hc
  simp only [Bool.and_eq_true, Bool.not_eq_true', bne_iff_ne, ne_eq] at hc
  obtain ⟨⟨⟨⟨⟨⟨⟨⟨⟨⟨⟨⟨h1, h2⟩, h3⟩, h4⟩, h5⟩, h6⟩, h7⟩, h8⟩, h9⟩, h10⟩, h11⟩, h12⟩, h13⟩ := hc
  have h' : l.drop a = c :: (s ++ r) := h
  have e1 : ∀ c', isC l a c' = (c == c') := fun c' => by rw [isC_drop0, h', isC_zero]
  have e2 : ∀ p, atB p l a = p c := fun p => by rw [atB_drop0, h', atB_zero]
  rw [nextF_at h' (beq_eq_false_iff_ne.2 h9)]
  unfold nextC nextB
  have n1 : numB l a = false := by
    unfold numB
    rw [e1, e1, e2, e1, beq_eq_false_iff_ne.2 h6, beq_eq_false_iff_ne.2 h7, h13, beq_eq_false_iff_ne.2 h8]
    rfl
  have n2 : nameB l a = true := by
    unfold nameB
    rw [e1, e2, beq_eq_false_iff_ne.2 h7, h1]
    rfl
  rw [n1, n2, h3, beq_eq_false_iff_ne.2 h4, beq_eq_false_iff_ne.2 h5, beq_eq_false_iff_ne.2 h7]
  rfl
/-- Names of two dashes and a letter. -/
theorem dash_first {c : Int} {s r l : List Int} {a : Nat} (h : l.drop a = 45 :: 45 :: c :: s ++ r) (hc : (c == 62) = false) : nextF l a = calledF l a := by
  have h' : l.drop a = 45 :: (45 :: (c :: (s ++ r))) := h
  rw [nextF_at h' rfl]
  unfold nextC nextB
  have i1 : ∀ c', isC l a c' = (45 == c') := fun c' => by rw [isC_drop0, h', isC_zero]
  have i2 : ∀ c', isC l (a + 1) c' = (45 == c') := fun c' => by rw [isC_drop, h', isC_succ, isC_zero]
  have i3 : ∀ c', isC l (a + 2) c' = (c == c') := fun c' => by rw [isC_drop, h', isC_succ, isC_succ, isC_zero]
  have i4 : ∀ p, atB p l (a + 1) = p 45 := fun p => by rw [atB_drop, h', atB_succ, atB_zero]
  have n1 : numB l a = false := by
    unfold numB
    rw [i1, i1, i4, i2]
    rfl
  have n2 : nameB l a = true := by
    unfold nameB
    rw [i1, i2]
    rfl
  rw [n1, n2, i2, i3, hc]
  rfl
theorem ident_of {s r l : List Int} {a : Nat} (h : l.drop a = s ++ r) (hs : s.all nmC = true) (h1 : atB nmC r 0 = false) (h2 : isC r 0 92 = false) (h3 : isC r 0 40 = false) : calledF l a = ⟨1, a, a + s.length, textS s, [], false⟩ := by
  unfold calledF
  rw [namesF_run h hs h1 h2]
  have : isC l (a + s.length) 40 = false := by rw [isC_drop0, drop_more h]; exact h3
  rw [this]
  rfl
theorem func_of {s r l : List Int} {a : Nat} (h : l.drop a = s ++ (40 :: r)) (hs : s.all nmC = true) (hu : (lowB (textS s) == urlT) = false) : calledF l a = ⟨2, a, a + s.length + 1, textS s, [], false⟩ := by
  unfold calledF
  rw [namesF_run h hs (atB_zero ..) (isC_zero ..)]
  have : isC l (a + s.length) 40 = true := by rw [isC_drop0, drop_more h]; exact isC_zero ..
  rw [this, hu]
  rfl
end Go.Av
/- Chapter 19, plain: pieces of a text, and the tokens of all of them. No program in sight. -/
set_option linter.unusedVariables false
set_option linter.unusedSimpArgs false
namespace Go.Av
open Go.Proofs Go.Proofs.Ytaldmffahmomoaa
theorem at_fits {c : Int} {s r l : List Int} {a : Nat} (h : l.drop a = 64 :: (c :: s) ++ r) (hc : lets c = true) (hs : (c :: s).all nmC = true) (h1 : atB nmC r 0 = false) (h2 : isC r 0 92 = false) :
    nextF l a = ⟨3, a, a + 1 + (c :: s).length, textS (c :: s), [], false⟩ := by
  have h' : l.drop a = 64 :: ((c :: s) ++ r) := h
  have hd : l.drop (a + 1) = (c :: s) ++ r := drop_more (s := [64]) h'
  rw [nextF_at h' rfl]
  unfold nextC nextB
  have i1 : ∀ c', isC l a c' = (64 == c') := fun c' => by rw [isC_drop0, h', isC_zero]
  have i2 : ∀ p, atB p l a = p 64 := fun p => by rw [atB_drop0, h', atB_zero]
  have i3 : escB l a = false := escB_no h' rfl
  have i4 : isC l (a + 1) 45 = (c == 45) := by rw [isC_drop0, hd, List.cons_append, isC_zero]
  have i5 : atB stC l (a + 1) = stC c := by rw [atB_drop0, hd, List.cons_append, atB_zero]
  have hl := hc
  unfold lets at hl
  simp only [Bool.and_eq_true, Bool.not_eq_true', bne_iff_ne, ne_eq] at hl
  have n1 : numB l a = false := by
    unfold numB
    rw [i1, i1, i2, i1]
    rfl
  have n2 : nameB l a = false := by
    unfold nameB
    rw [i1, i2, i3]
    rfl
  have n3 : nameB l (a + 1) = true := by
    unfold nameB
    rw [i4, i5, hl.1.1.1.1.1.1.1.1.1.1.1.1, beq_eq_false_iff_ne.2 hl.1.1.1.1.1.1.2]
    rfl
  rw [n1, n2, n3, namesF_run hd hs h1 h2]
  rfl
theorem num_fits {r l : List Int} {a : Nat} (h : l.drop a = 49 :: 59 :: r) : nextF l a = ⟨10, a, a + 1, [], [49], true⟩ := by
  have hd : l.drop (a + 1) = 59 :: r := drop_more (s := [49]) h
  rw [nextF_at h rfl]
  unfold nextC nextB
  have i1 : ∀ c', isC l a c' = (49 == c') := fun c' => by rw [isC_drop0, h, isC_zero]
  have i2 : ∀ p, atB p l a = p 49 := fun p => by rw [atB_drop0, h, atB_zero]
  have j1 : ∀ c', isC l (a + 1) c' = (59 == c') := fun c' => by rw [isC_drop0, hd, isC_zero]
  have j2 : ∀ p, atB p l (a + 1) = p 59 := fun p => by rw [atB_drop0, hd, atB_zero]
  have n1 : numB l a = true := by
    unfold numB
    rw [i1, i1, i2]
    rfl
  have hp : ∀ b, l.length ≤ b → atB dgC l b = false := fun b hb => by simp [atB, Nat.not_lt.2 hb]
  have hr : drun l a = a + 1 := by
    unfold drun
    rw [runF_step hp (by rw [i2]; rfl), runF_stop (by rw [j2]; rfl)]
  have hg : digF l a = (a + 1, true) := by
    unfold digF signB fracF expF
    simp only [i1, j1, j2, hr, beq_iff_eq, Int.reduceEq, Bool.or_self, Bool.false_eq_true, ↓reduceIte, Bool.false_and]
    simp [j1, hr, show ((49 : Int) == 43) = false from rfl, show ((49 : Int) == 45) = false from rfl, show ((59 : Int) == 46) = false from rfl, show ((59 : Int) == 101) = false from rfl, show ((59 : Int) == 69) = false from rfl]
  have hn : nameB l (a + 1) = false := by
    unfold nameB
    rw [j1, j2, escB_no hd rfl]
    rfl
  have ht : (l.take (a + 1)).drop a = [49] := by
    rw [List.drop_take, h]
    simp
  rw [n1]
  have : numericF l a = ⟨10, a, a + 1, [], [49], true⟩ := by
    unfold numericF
    rw [hg]
    simp only [hn, j1, ht]
    rfl
  rw [this]
  rfl
inductive Pk where
  | sg (c : Int)
  | dl (c : Int)
  | sp
  | nu
  | id (s : List Int)
  | fn (s : List Int)
  | at_ (s : List Int)
  | da (s : List Int)
def Pk.pc : Pk → Pc
  | .sg c => ⟨[c], kdS.getD ((sgFrom c 9 0).getD 0) 0, [], [], false⟩
  | .dl c => ⟨[c], 9, textS [c], [], false⟩
  | .sp => ⟨[32], 13, [], [], false⟩
  | .nu => ⟨[49], 10, [], [49], true⟩
  | .id s => ⟨s, 1, textS s, [], false⟩
  | .fn s => ⟨s ++ [40], 2, textS s, [], false⟩
  | .at_ s => ⟨64 :: s, 3, textS s, [], false⟩
  | .da s => ⟨45 :: 45 :: s, 1, textS (45 :: 45 :: s), [], false⟩
def sgOK (c : Int) : Bool := c == 40 || c == 41 || c == 91 || c == 93 || c == 123 || c == 125 || c == 44 || c == 58 || c == 59
def nameOK : List Int → Bool
  | [] => false
  | c :: s => lets c && (c :: s).all nmC
def dashOK : List Int → Bool
  | [] => false
  | c :: s => !(c == 62) && (c :: s).all nmC
def Pk.wf : Pk → Bool
  | .sg c => sgOK c
  | .dl c => c == 61 || c == 33
  | .sp => true
  | .nu => true
  | .id s => nameOK s
  | .fn s => nameOK s && !(lowB (textS s) == urlT)
  | .at_ s => nameOK s
  | .da s => dashOK s
def Pk.need : Pk → Option Int → Bool
  | .sg _, _ => true
  | .dl _, _ => true
  | .fn _, _ => true
  | .sp, none => true
  | .sp, some c => !(spC c)
  | .nu, h => h == some 59
  | _, none => true
  | _, some c => !(nmC c) && !(c == 92) && !(c == 40)
theorem need_name {r : List Int} {p : Pk} (hp : (∃ s, p = .id s) ∨ (∃ s, p = .at_ s) ∨ (∃ s, p = .da s)) (h : p.need r.head? = true) : atB nmC r 0 = false ∧ isC r 0 92 = false ∧ isC r 0 40 = false := by
  cases r with
  | nil => exact ⟨atB_nil _ _, isC_nil _ _, isC_nil _ _⟩
  | cons c r =>
    rw [atB_zero, isC_zero, isC_zero]
    rcases hp with ⟨s, rfl⟩ | ⟨s, rfl⟩ | ⟨s, rfl⟩
    all_goals
      simp only [Pk.need, List.head?_cons, Bool.and_eq_true, Bool.not_eq_true'] at h
      exact ⟨h.1.1, h.1.2, h.2⟩
theorem Pk.fits {p : Pk} (hw : p.wf = true) {l : List Int} {a : Nat} {r : List Int} (h : l.drop a = p.pc.chars ++ r) (hn : p.need r.head? = true) : nextF l a = p.pc.tk a := by
  cases p with
  | sg c =>
    have hc : c = 40 ∨ c = 41 ∨ c = 91 ∨ c = 93 ∨ c = 123 ∨ c = 125 ∨ c = 44 ∨ c = 58 ∨ c = 59 := by
      simpa [Pk.wf, sgOK, or_assoc] using hw
    exact sign_fits c _ rfl (by rcases hc with rfl | rfl | rfl | rfl | rfl | rfl | rfl | rfl | rfl <;> rfl) hc l a r h trivial
  | dl c => exact delim_fits c (by simpa [Pk.wf] using hw) l a r h trivial
  | sp =>
    refine space_fits l a r h ?_
    cases r with
    | nil => exact atB_nil _ _
    | cons c r => rw [atB_zero]; simpa [Pk.need] using hn
  | nu =>
    cases r with
    | nil => simp [Pk.need] at hn
    | cons c r =>
      have hc : c = 59 := by simpa [Pk.need] using hn
      subst hc
      exact num_fits h
  | id s =>
    obtain ⟨h1, h2, h3⟩ := need_name (.inl ⟨s, rfl⟩) hn
    cases s with
    | nil => simp [Pk.wf, nameOK] at hw
    | cons c s =>
      simp only [Pk.wf, nameOK, Bool.and_eq_true] at hw
      rw [name_first h hw.1]
      exact ident_of h hw.2 h1 h2 h3
  | fn s =>
    cases s with
    | nil => simp [Pk.wf, nameOK] at hw
    | cons c s =>
      simp only [Pk.wf, nameOK, Bool.and_eq_true, Bool.not_eq_true'] at hw
      have h' : l.drop a = (c :: s) ++ (40 :: r) := by rw [h]; simp [Pk.pc]
      rw [name_first h' hw.1.1, func_of h' hw.1.2 hw.2]
      simp only [Pc.tk, Pk.pc, List.length_append, List.length_cons, List.length_nil, Tk.mk.injEq, true_and, and_true]
      omega
  | at_ s =>
    obtain ⟨h1, h2, h3⟩ := need_name (.inr (.inl ⟨s, rfl⟩)) hn
    cases s with
    | nil => simp [Pk.wf, nameOK] at hw
    | cons c s =>
      simp only [Pk.wf, nameOK, Bool.and_eq_true] at hw
      rw [at_fits h hw.1 hw.2 h1 h2]
      simp only [Pc.tk, Pk.pc, List.length_cons, Tk.mk.injEq, true_and, and_true]
      omega
  | da s =>
    obtain ⟨h1, h2, h3⟩ := need_name (.inr (.inr ⟨s, rfl⟩)) hn
    cases s with
    | nil => simp [Pk.wf, dashOK] at hw
    | cons c s =>
      simp only [Pk.wf, dashOK, Bool.and_eq_true, Bool.not_eq_true'] at hw
      rw [dash_first h hw.1]
      exact ident_of h (by show (nmC 45 && (nmC 45 && (c :: s).all nmC)) = true; rw [show nmC 45 = true from rfl, hw.2]; rfl) h1 h2 h3
/-- Pieces, one behind the other. -/
def flatK : List Pk → List Int
  | [] => []
  | p :: ps => p.pc.chars ++ flatK ps
def placeK : Nat → List Pk → List Tk
  | _, [] => []
  | a, p :: ps => p.pc.tk a :: placeK (a + p.pc.chars.length) ps
/-- Each piece stands ahead of what it can stand ahead of. -/
def chainK : List Pk → Option Int → Bool
  | [], _ => true
  | p :: ps, h => p.wf && p.need ((flatK ps).head?.or h) && !p.pc.chars.isEmpty && p.pc.kind != 0 && chainK ps h
theorem flatK_append : ∀ (x y : List Pk), flatK (x ++ y) = flatK x ++ flatK y
  | [], y => rfl
  | p :: x, y => by rw [List.cons_append, flatK, flatK, flatK_append x y, List.append_assoc]
theorem chainK_append {h : Option Int} : ∀ {x y : List Pk}, (∀ g, chainK x g = true) → chainK y h = true → chainK (x ++ y) h = true
  | [], y, _, hy => hy
  | p :: x, y, hx, hy => by
    have h1 := fun g => hx g
    simp only [chainK, Bool.and_eq_true] at h1
    rw [List.cons_append, chainK, chainK_append (x := x) (fun g => (h1 g).2) hy, (h1 none).1.1.1.1, (h1 none).1.1.2, (h1 none).1.2]
    have : (flatK (x ++ y)).head?.or h = (flatK x).head?.or ((flatK y).head?.or h) := by
      rw [flatK_append]
      cases flatK x <;> simp
    rw [this, (h1 _).1.1.1.2]
    rfl
theorem allT_place {l : List Int} : ∀ (ps : List Pk) (n a : Nat), a ≤ l.length → l.drop a = flatK ps → chainK ps none = true → ps.length < n → allT l n a = placeK a ps ++ [⟨0, l.length, l.length, [], [], false⟩]
  | _, 0, _, _, _, _, hn => by omega
  | [], n + 1, a, ha, h, _, _ => by
    have : l.length ≤ a := by have := congrArg List.length h; rw [List.length_drop] at this; simp [flatK] at this; omega
    rw [allT, nextF_end this]
    rfl
  | p :: ps, n + 1, a, ha, h, hc, hn => by
    simp only [chainK, Bool.and_eq_true, bne_iff_ne, ne_eq] at hc
    have e := Pk.fits hc.1.1.1.1 h (by have := hc.1.1.1.2; rwa [Option.or_none] at this)
    have hl : a + p.pc.chars.length ≤ l.length := by
      have := congrArg List.length h
      rw [List.length_drop, flatK, List.length_append] at this
      omega
    rw [allT, e, if_neg (by exact hc.1.2), show (p.pc.tk a).to = a + p.pc.chars.length from rfl, allT_place ps n _ hl (drop_more h) hc.2 (by simpa using hn)]
    rfl
theorem flatK_length : ∀ {ps : List Pk}, chainK ps none = true → ps.length ≤ (flatK ps).length
  | [], _ => Nat.le_refl _
  | p :: ps, hc => by
    simp only [chainK, Bool.and_eq_true] at hc
    have h1 := flatK_length hc.2
    have h2 : 0 < p.pc.chars.length := by
      rcases hq : p.pc.chars with _ | ⟨c, r⟩
      · rw [hq] at hc; simp at hc
      · simp
    rw [flatK, List.length_append, List.length_cons]
    omega
theorem tokens_place {ps : List Pk} (hc : chainK ps none = true) : tokens (flatK ps) = placeK 0 ps ++ [⟨0, (flatK ps).length, (flatK ps).length, [], [], false⟩] :=
  allT_place ps _ 0 (Nat.zero_le _) rfl hc (Nat.lt_succ_of_le (flatK_length hc))
/-- Plain bytes are their own characters. -/
theorem text_ascii : ∀ {xs : List Int}, (xs.all fun c => decide (0 < c) && decide (c < 128)) = true → textOf xs = xs ∧ xs.map fixC = xs
  | [], _ => ⟨rfl, rfl⟩
  | c :: r, h => by
    simp only [List.all_cons, Bool.and_eq_true, decide_eq_true_eq] at h
    obtain ⟨h1, h2⟩ := text_ascii h.2
    have hc : rightC c = true := by unfold rightC; exact decide_eq_true (by omega)
    have hf := fixC_yes hc
    refine ⟨?_, ?_⟩
    · rw [textOf, h1, hf]
      unfold rPut
      rw [if_pos (by omega)]
      rfl
    · rw [List.map_cons, h2, hf]
theorem prep_ascii : ∀ {xs : List Int}, (xs.all fun c => decide (13 < c) && decide (c < 128)) = true → prep xs = xs
  | [], _ => rfl
  | c :: r, h => by
    simp only [List.all_cons, Bool.and_eq_true, decide_eq_true_eq] at h
    have hc : rightC c = true := by unfold rightC; exact decide_eq_true (by omega)
    rw [prep, if_neg (by rintro ⟨h1, _⟩; omega), prep_ascii h.2]
    unfold prepC
    rw [if_neg (by omega), if_neg (by omega), fixC_yes hc]
theorem read_ascii {xs : List Int} (h : (xs.all fun c => decide (13 < c) && decide (c < 128)) = true) : readT xs = tokens xs := by
  have h' : (xs.all fun c => decide (0 < c) && decide (c < 128)) = true := by
    rw [List.all_eq_true] at h ⊢
    intro c hc
    have := h c hc
    simp only [Bool.and_eq_true, decide_eq_true_eq] at this ⊢
    omega
  obtain ⟨h1, h2⟩ := text_ascii h'
  have h3 : chars xs = xs := by
    have := chars_text xs
    rw [h1, h2] at this
    rw [this]
    unfold dropMark
    cases xs with
    | nil => rfl
    | cons c r =>
      simp only [List.all_cons, Bool.and_eq_true, decide_eq_true_eq] at h
      rw [List.head?_cons, if_neg (by intro hh; have := Option.some.inj hh; omega)]
  unfold readT
  rw [h3, prep_ascii h]
theorem read_place {ps : List Pk} (hc : chainK ps none = true) (ha : ((flatK ps).all fun c => decide (13 < c) && decide (c < 128)) = true) : readT (flatK ps) = placeK 0 ps ++ [⟨0, (flatK ps).length, (flatK ps).length, [], [], false⟩] := by
  rw [read_ascii ha, tokens_place hc]
end Go.Av
/- Chapter 19, plain: what is told of a part of the tokens is told of it wherever it stands. No program in sight. -/
set_option linter.unusedVariables false
set_option linter.unusedSimpArgs false
namespace Go.Av
open Go.Proofs Go.Proofs.Ytaldmffahmomoaa
def TS (ps : List Pk) : List Tk := placeK 0 ps ++ [⟨0, (flatK ps).length, (flatK ps).length, [], [], false⟩]
theorem placeK_length : ∀ (ps : List Pk) (a : Nat), (placeK a ps).length = ps.length
  | [], _ => rfl
  | p :: ps, a => by rw [placeK, List.length_cons, placeK_length ps, List.length_cons]
theorem TS_length (ps : List Pk) : (TS ps).length = ps.length + 1 := by unfold TS; rw [List.length_append, placeK_length]; rfl
theorem place_kd : ∀ (ps : List Pk) (a : Nat) (E : Tk) (i : Nat), E.kind = 0 → kd (placeK a ps ++ [E]) i = (ps.map fun p => p.pc.kind).getD i 0
  | [], a, E, 0, h => h
  | [], a, E, i + 1, h => rfl
  | p :: ps, a, E, 0, h => rfl
  | p :: ps, a, E, i + 1, h => place_kd ps _ E i h
theorem place_tx : ∀ (ps : List Pk) (a : Nat) (E : Tk) (i : Nat), E.text = [] → tx (placeK a ps ++ [E]) i = (ps.map fun p => p.pc.text).getD i []
  | [], a, E, 0, h => h
  | [], a, E, i + 1, h => rfl
  | p :: ps, a, E, 0, h => rfl
  | p :: ps, a, E, i + 1, h => place_tx ps _ E i h
theorem TS_kd (ps : List Pk) (i : Nat) : kd (TS ps) i = (ps.map fun p => p.pc.kind).getD i 0 := place_kd ps 0 _ i rfl
theorem TS_tx (ps : List Pk) (i : Nat) : tx (TS ps) i = (ps.map fun p => p.pc.text).getD i [] := place_tx ps 0 _ i rfl
/-- Tokens from a place on read as others do. -/
structure Sh (p : Nat) (ts ts' : List Tk) : Prop where
  kd : ∀ i, Go.Av.kd ts (p + i) = Go.Av.kd ts' i
  tx : ∀ i, Go.Av.tx ts (p + i) = Go.Av.tx ts' i
  len : ts.length = p + ts'.length
theorem sh_TS (x y : List Pk) : Sh x.length (TS (x ++ y)) (TS y) := by
  refine ⟨fun i => ?_, fun i => ?_, ?_⟩
  · rw [TS_kd, TS_kd, List.map_append, List.getD_eq_getElem?_getD, List.getElem?_append_right (by simp), List.length_map, Nat.add_sub_cancel_left, List.getD_eq_getElem?_getD]
  · rw [TS_tx, TS_tx, List.map_append, List.getD_eq_getElem?_getD, List.getElem?_append_right (by simp), List.length_map, Nat.add_sub_cancel_left, List.getD_eq_getElem?_getD]
  · rw [TS_length, TS_length, List.length_append, Nat.add_assoc]
section
variable {p : Nat} {ts ts' : List Tk}
theorem untilN_sh (h : Sh p ts ts') {e : Nat} : ∀ (n : Nat) (stop : Int → Bool) (a : Nat), untilN (kd ts) (p + e) n stop (p + a) = p + untilN (kd ts') e n stop a
  | 0, _, _ => rfl
  | n + 1, stop, a => by
    rw [untilN, untilN, h.kd]
    by_cases hc : a < e ∧ stop (kd ts' a) = false
    · rw [if_pos hc, if_pos ⟨by omega, hc.2⟩]
      dsimp only
      rw [Nat.add_assoc, untilN_sh h n (fun k => k == closeK (kd ts' a)) (a + 1)]
      by_cases h1 : closeK (kd ts' a) = 0
      · rw [if_pos h1, if_pos h1, untilN_sh h n stop]
      · rw [if_neg h1, if_neg h1]
        by_cases h2 : untilN (kd ts') e n (fun k => k == closeK (kd ts' a)) (a + 1) < e
        · rw [if_pos h2, if_pos (by omega), Nat.add_assoc, untilN_sh h n stop]
        · rw [if_neg h2, if_neg (by omega), untilN_sh h n stop]
    · rw [if_neg hc, if_neg (by rintro ⟨h1, h2⟩; exact hc ⟨by omega, h2⟩)]
theorem untilF_sh (h : Sh p ts ts') {e a : Nat} (stop : Int → Bool) : untilF (kd ts) (p + e) stop (p + a) = p + untilF (kd ts') e stop a := by
  unfold untilF
  rw [show p + e - (p + a) = e - a by omega]
  exact untilN_sh h _ stop a
theorem behindF_sh (h : Sh p ts ts') {e a : Nat} : behindF (kd ts) (p + e) (p + a) = (p + (behindF (kd ts') e a).1, p + (behindF (kd ts') e a).2) := by
  unfold behindF
  rw [h.kd]
  dsimp only
  rw [Nat.add_assoc, untilF_sh h]
  by_cases h1 : closeK (kd ts' a) = 0
  · rw [if_pos h1, if_pos h1]
  · rw [if_neg h1, if_neg h1]
    by_cases h2 : untilF (kd ts') e (fun k => k == closeK (kd ts' a)) (a + 1) < e
    · rw [if_pos h2, if_pos (by omega)]
      rfl
    · rw [if_neg h2, if_neg (by omega)]
def Ru.sh (p : Nat) (r : Ru) : Ru := ⟨r.at_, r.name, p + r.fr, p + r.to, r.has, if r.has = true then p + r.opn else r.opn, if r.has = true then p + r.en else r.en⟩
theorem atRuleF_sh (h : Sh p ts ts') {e a : Nat} : atRuleF ts (p + e) (p + a) = ((atRuleF ts' e a).1.sh p, p + (atRuleF ts' e a).2) := by
  have hE : atEnd ts (p + e) (p + a) = p + atEnd ts' e a := by unfold atEnd; rw [Nat.add_assoc]; exact untilF_sh h _
  unfold atRuleF
  rw [hE, h.kd, h.tx]
  by_cases h1 : e ≤ atEnd ts' e a
  · rw [if_pos h1, if_pos (by omega)]
    rfl
  · rw [if_neg h1, if_neg (by omega)]
    by_cases h2 : kd ts' (atEnd ts' e a) = 17
    · rw [if_pos h2, if_pos h2]
      rfl
    · rw [if_neg h2, if_neg h2, behindF_sh h]
      rfl
theorem rulesN_sh (h : Sh p ts ts') {e : Nat} {top : Bool} : ∀ (n a : Nat), rulesN ts (p + e) top n (p + a) = (rulesN ts' e top n a).map (Ru.sh p)
  | 0, _ => rfl
  | n + 1, a => by
    have hE : headE ts (p + e) (p + a) = p + headE ts' e a := untilF_sh h _
    rw [rulesN, rulesN, h.kd, atRuleF_sh h]
    unfold ruleF
    rw [hE, behindF_sh h]
    by_cases h0 : a < e
    · rw [if_pos h0, if_pos (by omega)]
      by_cases h1 : blankB top (kd ts' a) = true
      · rw [if_pos h1, if_pos h1, Nat.add_assoc]
        exact rulesN_sh h n (a + 1)
      · rw [if_neg h1, if_neg h1]
        by_cases h2 : kd ts' a = 3
        · rw [if_pos h2, if_pos h2]
          dsimp only
          rw [rulesN_sh h n]
          rfl
        · rw [if_neg h2, if_neg h2]
          by_cases h3 : e ≤ headE ts' e a
          · rw [if_pos h3, if_pos (by omega)]
            rfl
          · rw [if_neg h3, if_neg (by omega)]
            dsimp only
            rw [rulesN_sh h n]
            rfl
    · rw [if_neg h0, if_neg (by omega)]
      rfl
theorem rulesF_sh (h : Sh p ts ts') {e a : Nat} {top : Bool} : rulesF ts (p + e) top (p + a) = (rulesF ts' e top a).map (Ru.sh p) := by
  unfold rulesF
  rw [show p + e - (p + a) = e - a by omega]
  exact rulesN_sh h _ a
theorem runN_sh {q q' : Nat → Bool} (h : ∀ i, q (p + i) = q' i) : ∀ (k a : Nat), runN q k (p + a) = p + runN q' k a
  | 0, _ => rfl
  | k + 1, a => by
    rw [runN, runN, h]
    by_cases hq : q' a = true
    · rw [if_pos hq, if_pos hq, Nat.add_assoc]
      exact runN_sh h k (a + 1)
    · rw [if_neg hq, if_neg hq]
theorem runF_sh {q q' : Nat → Bool} (h : ∀ i, q (p + i) = q' i) {n a : Nat} : runF q (p + n) (p + a) = p + runF q' n a := by
  unfold runF
  rw [show p + n - (p + a) = n - a by omega]
  exact runN_sh h _ a
theorem spF_sh (h : Sh p ts ts') {e a : Nat} : spF (kd ts) (p + e) (p + a) = p + spF (kd ts') e a :=
  runF_sh fun i => by rw [h.kd, decide_eq_decide.2 (by omega : p + i < p + e ↔ i < e)]
theorem endF_sh (h : Sh p ts ts') {e a : Nat} : endF (kd ts) (p + e) (p + a) = p + endF (kd ts') e a :=
  runF_sh fun i => by rw [h.kd, decide_eq_decide.2 (by omega : p + i < p + e ↔ i < e)]
theorem bkF_sh (h : Sh p ts ts') {s : Nat} : ∀ (e : Nat), bkF (kd ts) (p + s) (p + e) = p + bkF (kd ts') s e
  | 0 => bkF_stop (.inl (by omega))
  | e + 1 => by
    rw [show p + (e + 1) = (p + e) + 1 by omega, bkF, bkF, h.kd]
    by_cases hc : s < e + 1 ∧ kd ts' e = 13
    · rw [if_pos hc, if_pos ⟨by omega, hc.2⟩]
      exact bkF_sh h e
    · rw [if_neg hc, if_neg (by rintro ⟨h1, h2⟩; exact hc ⟨by omega, h2⟩)]
      rfl
theorem cutF_sh (h : Sh p ts ts') {a b : Nat} : cutF ts ((p + a : Nat) : Int) ((p + b : Nat) : Int) = (p + (cutF ts' (a : Nat) (b : Nat)).1, p + (cutF ts' (a : Nat) (b : Nat)).2) := by
  unfold cutF
  have h1 : (min ((p + b : Nat) : Int) (ts.length : Nat)).toNat = p + (min ((b : Nat) : Int) (ts'.length : Nat)).toNat := by rw [h.len]; omega
  rw [h1]
  simp only [Int.toNat_natCast]
  rw [endF_sh h]
theorem trimF_sh (h : Sh p ts ts') {a b : Nat} : trimF ts ((p + a : Nat) : Int) ((p + b : Nat) : Int) = (p + (trimF ts' (a : Nat) (b : Nat)).1, p + (trimF ts' (a : Nat) (b : Nat)).2) := by
  unfold trimF
  rw [cutF_sh h]
  dsimp only
  rw [spF_sh h, bkF_sh h]
  generalize cutF ts' (a : Nat) (b : Nat) = c
  by_cases h1 : c.2 ≤ spF (kd ts') c.2 c.1
  · rw [if_pos h1, if_pos (by omega)]
  · rw [if_neg h1, if_neg (by omega)]
theorem trimF_ge (ts : List Tk) (a b : Nat) : a ≤ (trimF ts (a : Nat) (b : Nat)).1 ∧ (trimF ts (a : Nat) (b : Nat)).1 ≤ (trimF ts (a : Nat) (b : Nat)).2 := by
  have h1 := cutF_ge ts (a : Nat) (b : Nat)
  have h0 : (cutF ts ((a : Nat) : Int) ((b : Nat) : Int)).1 = a := by unfold cutF; simp
  unfold trimF
  rw [h0] at h1 ⊢
  have h2 : a ≤ spF (kd ts) (cutF ts (a : Nat) (b : Nat)).2 a := runF_pos.1
  split
  · exact ⟨Nat.le_refl _, Nat.le_refl _⟩
  · rename_i h3
    exact ⟨h2, bkF_pos.2 (by omega)⟩
def De.sh (p : Nat) (d : De) : De := ⟨d.name, p + d.fr, p + d.to, d.imp⟩
theorem declG_sh (h : Sh p ts ts') {fr : Nat} {q : Nat × Nat} (h1 : 1 ≤ q.1) (h2 : q.1 ≤ q.2) : declG ts (p + fr) (p + q.1, p + q.2) = ((declG ts' fr q).1.sh p, (declG ts' fr q).2) := by
  have eP : declP ts (p + q.1, p + q.2) = (p + (declP ts' q).1, p + (declP ts' q).2) := by
    unfold declP
    dsimp only
    rw [show p + q.2 - 1 = p + (q.2 - 1) by omega]
    exact trimF_sh h
  have gP := trimF_ge ts' q.1 (q.2 - 1)
  have eZ : declZ ts (p + q.1, p + q.2) (declP ts (p + q.1, p + q.2)) = (p + (declZ ts' q (declP ts' q)).1, p + (declZ ts' q (declP ts' q)).2) := by
    rw [eP]
    unfold declZ
    have : 1 ≤ (declP ts' q).2 := by unfold declP; omega
    dsimp only
    rw [show p + (declP ts' q).2 - 1 = p + ((declP ts' q).2 - 1) by omega]
    exact trimF_sh h
  unfold declG
  have hp : 1 ≤ (declP ts' q).2 := by unfold declP; omega
  rw [eZ, eP]
  dsimp only
  rw [show p + q.2 - 1 = p + (q.2 - 1) by omega, show p + (declP ts' q).2 - 1 = p + ((declP ts' q).2 - 1) by omega, h.kd, h.kd, h.tx, h.tx, h.tx]
  generalize declP ts' q = P
  generalize declZ ts' q P = Z
  unfold declE
  dsimp only
  simp only [show (p + q.2 ≤ p + q.1) = (q.2 ≤ q.1) from propext ⟨fun _ => by omega, fun _ => by omega⟩, show (p + P.2 ≤ p + P.1) = (P.2 ≤ P.1) from propext ⟨fun _ => by omega, fun _ => by omega⟩]
  repeat' split
  all_goals rfl
theorem declF_sh (h : Sh p ts ts') {fr to : Nat} : (declF ts (p + fr) (p + to)).2 = (declF ts' fr to).2 ∧ ((declF ts' fr to).2 = true → (declF ts (p + fr) (p + to)).1 = (declF ts' fr to).1.sh p) := by
  have e1 : spF (kd ts) (p + to) (p + fr + 1) = p + spF (kd ts') to (fr + 1) := by rw [Nat.add_assoc]; exact spF_sh h
  have e2 : isB ts (p + spF (kd ts') to (fr + 1)) (p + to) 16 = isB ts' (spF (kd ts') to (fr + 1)) to 16 := by
    unfold isB
    rw [h.kd, decide_eq_decide.2 (by omega : p + spF (kd ts') to (fr + 1) < p + to ↔ spF (kd ts') to (fr + 1) < to)]
  have e3 : declQ ts (p + to) (p + spF (kd ts') to (fr + 1)) = (p + (declQ ts' to (spF (kd ts') to (fr + 1))).1, p + (declQ ts' to (spF (kd ts') to (fr + 1))).2) := by
    unfold declQ
    rw [Nat.add_assoc]
    exact trimF_sh h
  have g := trimF_ge ts' (spF (kd ts') to (fr + 1) + 1) to
  unfold declF
  rw [e1, e2, e3]
  by_cases hb : isB ts' (spF (kd ts') to (fr + 1)) to 16 = true
  · rw [if_pos hb, if_pos hb, declG_sh h (by unfold declQ; omega) (by unfold declQ; omega)]
    exact ⟨rfl, fun _ => rfl⟩
  · rw [if_neg hb, if_neg hb]
    exact ⟨rfl, fun hh => (by cases hh)⟩
theorem declsN_sh (h : Sh p ts ts') {e : Nat} : ∀ (n a : Nat), declsN ts (p + e) n (p + a) = (declsN ts' e n a).map (De.sh p)
  | 0, _ => rfl
  | n + 1, a => by
    have hE : semiE ts (p + e) (p + a) = p + semiE ts' e a := untilF_sh h _
    obtain ⟨h5, h6⟩ := declF_sh h (fr := a) (to := semiE ts' e a)
    rw [declsN, declsN, h.kd, atRuleF_sh h, hE, h5]
    by_cases h0 : a < e
    · rw [if_pos h0, if_pos (by omega)]
      by_cases h1 : kd ts' a = 13 ∨ kd ts' a = 17
      · rw [if_pos h1, if_pos h1, Nat.add_assoc]
        exact declsN_sh h n (a + 1)
      · rw [if_neg h1, if_neg h1]
        by_cases h2 : kd ts' a = 3
        · rw [if_pos h2, if_pos h2]
          exact declsN_sh h n _
        · rw [if_neg h2, if_neg h2]
          by_cases h3 : kd ts' a = 1 ∧ (declF ts' a (semiE ts' e a)).2 = true
          · rw [if_pos h3, if_pos h3, h6 h3.2, declsN_sh h n]
            rfl
          · rw [if_neg h3, if_neg h3]
            exact declsN_sh h n _
    · rw [if_neg h0, if_neg (by omega)]
      rfl
theorem declsF_sh (h : Sh p ts ts') {e a : Nat} : declsF ts (p + e) (p + a) = (declsF ts' e a).map (De.sh p) := by
  unfold declsF
  rw [show p + e - (p + a) = e - a by omega]
  exact declsN_sh h _ a
end
end Go.Av
/- Chapter 19, plain: rules that end, one behind the other. No program in sight. -/
set_option linter.unusedVariables false
set_option linter.unusedSimpArgs false
namespace Go.Av
open Go.Proofs Go.Proofs.Ytaldmffahmomoaa
/-- The texts that BlocksJoin puts together. -/
def fr5 : Nat → List Pk
  | 0 => [.id [97], .sg 123, .sg 125]
  | 1 => [.id [98], .sg 123, .id [120], .sg 58, .nu, .sg 59, .id [121], .sg 58, .sg 123, .id [122], .sg 125, .sg 125]
  | 2 => [.at_ [109], .sg 123, .id [99], .sg 123, .sg 125, .sg 125]
  | 3 => [.at_ [110], .sp, .id [100], .sg 59]
  | 4 => [.sg 91, .id [101], .dl 61, .sg 123, .id [102], .sg 125, .sg 93, .sg 123, .sg 125]
  | 5 => [.fn [103], .id [104], .sg 123, .id [105], .sg 125, .sg 41, .sg 123, .id [106], .sg 125]
  | _ => [.id [107], .sg 123, .sg 91, .sg 40, .id [108], .sg 41, .sg 93, .sg 125]
def ru5 : Nat → Ru
  | 0 => ⟨false, [], 0, 1, true, 2, 2⟩
  | 1 => ⟨false, [], 0, 1, true, 2, 11⟩
  | 2 => ⟨true, [109], 1, 1, true, 2, 5⟩
  | 3 => ⟨true, [110], 1, 3, false, 0, 0⟩
  | 4 => ⟨false, [], 0, 7, true, 8, 8⟩
  | 5 => ⟨false, [], 0, 6, true, 7, 8⟩
  | _ => ⟨false, [], 0, 1, true, 2, 7⟩
/-- A fragment's text. -/
def by5 : Nat → List UInt8
  | 0 => [97, 123, 125]
  | 1 => [98, 123, 120, 58, 49, 59, 121, 58, 123, 122, 125, 125]
  | 2 => [64, 109, 123, 99, 123, 125, 125]
  | 3 => [64, 110, 32, 100, 59]
  | 4 => [91, 101, 61, 123, 102, 125, 93, 123, 125]
  | 5 => [103, 40, 104, 123, 105, 125, 41, 123, 106, 125]
  | _ => [107, 123, 91, 40, 108, 41, 93, 125]
theorem case7 {P : Nat → Prop} (h0 : P 0) (h1 : P 1) (h2 : P 2) (h3 : P 3) (h4 : P 4) (h5 : P 5) (h6 : ∀ n, P (n + 6)) : ∀ n, P n
  | 0 => h0 | 1 => h1 | 2 => h2 | 3 => h3 | 4 => h4 | 5 => h5 | n + 6 => h6 n
theorem by5_flat : ∀ n, (by5 n).map (fun b => ((b.toNat : Nat) : Int)) = flatK (fr5 n) :=
  case7 rfl rfl rfl rfl rfl rfl fun _ => rfl
theorem fr5_chain : ∀ n g, chainK (fr5 n) g = true :=
  case7 (fun _ => rfl) (fun _ => rfl) (fun _ => rfl) (fun _ => rfl) (fun _ => rfl) (fun _ => rfl) fun _ _ => rfl
theorem fr5_ascii : ∀ n, ((flatK (fr5 n)).all fun c => decide (13 < c) && decide (c < 128)) = true :=
  case7 rfl rfl rfl rfl rfl rfl fun _ => rfl
theorem ru5_none : ∀ (n : Nat), (ru5 n).has = false → (ru5 n).opn = 0 ∧ (ru5 n).en = 0 :=
  case7 (P := fun n => (ru5 n).has = false → (ru5 n).opn = 0 ∧ (ru5 n).en = 0) (fun h => by cases h) (fun h => by cases h) (fun h => by cases h) (fun _ => ⟨rfl, rfl⟩) (fun h => by cases h) (fun h => by cases h) fun _ h => by cases h
theorem rules_first {ts : List Tk} {e a nx : Nat} {r : Ru} (h0 : a < e) (h1 : blankB true (kd ts a) = false) (h2 : kd ts a = 3 → atRuleF ts e a = (r, nx)) (h3 : kd ts a ≠ 3 → ¬ e ≤ headE ts e a ∧ ruleF ts e a = r ∧ (behindF (kd ts) e (headE ts e a)).1 = nx) :
    rulesF ts e true a = r :: rulesF ts e true nx := by
  rw [rulesF_step h0, h1, if_neg (by simp)]
  by_cases h : kd ts a = 3
  · rw [if_pos h, h2 h]
  · obtain ⟨h4, h5, h6⟩ := h3 h
    rw [if_neg h, if_neg h4, h5, h6]
theorem rule5_0 (ps : List Pk) : rulesF (TS (fr5 0 ++ ps)) (ps.length + 3) true 0 = ru5 0 :: rulesF (TS (fr5 0 ++ ps)) (ps.length + 3) true 3 := by
  refine rules_first (by omega) (by kernel_rfl) (fun h => absurd (show (1 : Int) = 3 from h) (by decide)) fun _ => ?_
  have e1 : headE (TS (fr5 0 ++ ps)) (ps.length + 3) 0 = 1 := by kernel_rfl
  have e2 : behindF (kd (TS (fr5 0 ++ ps))) (ps.length + 3) 1 = (3, 2) := by kernel_rfl
  unfold ruleF
  rw [e1, e2]
  exact ⟨by omega, rfl, rfl⟩
theorem rule5_1 (ps : List Pk) : rulesF (TS (fr5 1 ++ ps)) (ps.length + 12) true 0 = ru5 1 :: rulesF (TS (fr5 1 ++ ps)) (ps.length + 12) true 12 := by
  refine rules_first (by omega) (by kernel_rfl) (fun h => absurd (show (1 : Int) = 3 from h) (by decide)) fun _ => ?_
  have e1 : headE (TS (fr5 1 ++ ps)) (ps.length + 12) 0 = 1 := by kernel_rfl
  have e2 : behindF (kd (TS (fr5 1 ++ ps))) (ps.length + 12) 1 = (12, 11) := by kernel_rfl
  unfold ruleF
  rw [e1, e2]
  exact ⟨by omega, rfl, rfl⟩
theorem rule5_2 (ps : List Pk) : rulesF (TS (fr5 2 ++ ps)) (ps.length + 6) true 0 = ru5 2 :: rulesF (TS (fr5 2 ++ ps)) (ps.length + 6) true 6 := by
  exact rules_first (by omega) (by kernel_rfl) (fun _ => by kernel_rfl) fun h => absurd (show (3 : Int) = 3 from rfl) h
theorem rule5_3 (ps : List Pk) : rulesF (TS (fr5 3 ++ ps)) (ps.length + 4) true 0 = ru5 3 :: rulesF (TS (fr5 3 ++ ps)) (ps.length + 4) true 4 := by
  exact rules_first (by omega) (by kernel_rfl) (fun _ => by kernel_rfl) fun h => absurd (show (3 : Int) = 3 from rfl) h
theorem rule5_4 (ps : List Pk) : rulesF (TS (fr5 4 ++ ps)) (ps.length + 9) true 0 = ru5 4 :: rulesF (TS (fr5 4 ++ ps)) (ps.length + 9) true 9 := by
  refine rules_first (by omega) (by kernel_rfl) (fun h => absurd (show (19 : Int) = 3 from h) (by decide)) fun _ => ?_
  have e1 : headE (TS (fr5 4 ++ ps)) (ps.length + 9) 0 = 7 := by kernel_rfl
  have e2 : behindF (kd (TS (fr5 4 ++ ps))) (ps.length + 9) 7 = (9, 8) := by kernel_rfl
  unfold ruleF
  rw [e1, e2]
  exact ⟨by omega, rfl, rfl⟩
theorem rule5_5 (ps : List Pk) : rulesF (TS (fr5 5 ++ ps)) (ps.length + 9) true 0 = ru5 5 :: rulesF (TS (fr5 5 ++ ps)) (ps.length + 9) true 9 := by
  refine rules_first (by omega) (by kernel_rfl) (fun h => absurd (show (2 : Int) = 3 from h) (by decide)) fun _ => ?_
  have e1 : headE (TS (fr5 5 ++ ps)) (ps.length + 9) 0 = 6 := by kernel_rfl
  have e2 : behindF (kd (TS (fr5 5 ++ ps))) (ps.length + 9) 6 = (9, 8) := by kernel_rfl
  unfold ruleF
  rw [e1, e2]
  exact ⟨by omega, rfl, rfl⟩
theorem rule5_6 (ps : List Pk) : rulesF (TS (fr5 6 ++ ps)) (ps.length + 8) true 0 = ru5 6 :: rulesF (TS (fr5 6 ++ ps)) (ps.length + 8) true 8 := by
  refine rules_first (by omega) (by kernel_rfl) (fun h => absurd (show (1 : Int) = 3 from h) (by decide)) fun _ => ?_
  have e1 : headE (TS (fr5 6 ++ ps)) (ps.length + 8) 0 = 1 := by kernel_rfl
  have e2 : behindF (kd (TS (fr5 6 ++ ps))) (ps.length + 8) 1 = (8, 7) := by kernel_rfl
  unfold ruleF
  rw [e1, e2]
  exact ⟨by omega, rfl, rfl⟩
theorem rule5 (ps : List Pk) : ∀ n, rulesF (TS (fr5 n ++ ps)) (ps.length + (fr5 n).length) true 0 = ru5 n :: rulesF (TS (fr5 n ++ ps)) (ps.length + (fr5 n).length) true (fr5 n).length :=
  case7 (rule5_0 ps) (rule5_1 ps) (rule5_2 ps) (rule5_3 ps) (rule5_4 ps) (rule5_5 ps) fun _ => rule5_6 ps
/-- Fragments, one behind the other. -/
def frs5 (ns : List Nat) : List Pk := ns.flatMap fr5
/-- Their rules, from a place on. -/
def rus5 : Nat → List Nat → List Ru
  | _, [] => []
  | p, n :: ns => (ru5 n).sh p :: rus5 (p + (fr5 n).length) ns
theorem ru_sh_sh (p q : Nat) (r : Ru) : (r.sh q).sh p = r.sh (p + q) := by
  unfold Ru.sh
  cases r.has <;> simp [Nat.add_assoc]
theorem rus5_sh (p : Nat) : ∀ (ns : List Nat) (q : Nat), (rus5 q ns).map (Ru.sh p) = rus5 (p + q) ns
  | [], _ => rfl
  | n :: ns, q => by rw [rus5, rus5, List.map_cons, ru_sh_sh, rus5_sh p ns, Nat.add_assoc]
theorem rules_all : ∀ (ns : List Nat), rulesF (TS (frs5 ns)) (frs5 ns).length true 0 = rus5 0 ns
  | [] => rfl
  | n :: ns => by
    have h := rule5 (frs5 ns) n
    have h2 := rulesF_sh (sh_TS (fr5 n) (frs5 ns)) (e := (frs5 ns).length) (a := 0) (top := true)
    have e : frs5 (n :: ns) = fr5 n ++ frs5 ns := rfl
    rw [e, List.length_append, Nat.add_comm, h, rus5, Nat.add_comm]
    rw [Nat.add_zero] at h2
    rw [h2, rules_all ns, rus5_sh]
    have : (ru5 n).sh 0 = ru5 n := by
      unfold Ru.sh
      simp
    rw [this]
    simp
theorem rus5_append : ∀ (a b : List Nat) (p : Nat), rus5 p (a ++ b) = rus5 p a ++ rus5 (p + (frs5 a).length) b
  | [], b, p => rfl
  | n :: a, b, p => by
    rw [List.cons_append, rus5, rus5, rus5_append a b, List.cons_append, show frs5 (n :: a) = fr5 n ++ frs5 a from rfl, List.length_append, Nat.add_assoc]
theorem rus5_length : ∀ (a : List Nat) (p : Nat), (rus5 p a).length = a.length
  | [], _ => rfl
  | n :: a, p => by rw [rus5, List.length_cons, List.length_cons, rus5_length a]
theorem chain_frs5 {h : Option Int} : ∀ (ns : List Nat), chainK (frs5 ns) h = true
  | [] => rfl
  | n :: ns => chainK_append (fr5_chain n) (chain_frs5 ns)
theorem flat_frs5 : ∀ (ns : List Nat), flatK (frs5 ns) = (ns.flatMap by5).map (fun b => ((b.toNat : Nat) : Int))
  | [] => rfl
  | n :: ns => by
    rw [show frs5 (n :: ns) = fr5 n ++ frs5 ns from rfl, flatK_append, flat_frs5 ns, List.flatMap_cons, List.map_append, by5_flat]
theorem ascii_frs5 : ∀ (ns : List Nat), ((flatK (frs5 ns)).all fun c => decide (13 < c) && decide (c < 128)) = true
  | [] => rfl
  | n :: ns => by
    rw [show frs5 (n :: ns) = fr5 n ++ frs5 ns from rfl, flatK_append, List.all_append, fr5_ascii, ascii_frs5 ns]
    rfl
theorem read_frs5 (ns : List Nat) : readT ((ns.flatMap by5).map (fun b => ((b.toNat : Nat) : Int))) = TS (frs5 ns) := by
  rw [← flat_frs5, read_place (chain_frs5 ns) (ascii_frs5 ns)]
  rfl
/-- Up to the end: the part that is all tokens of pieces. -/
theorem cut_TS (ps : List Pk) (hc : chainK ps none = true) : cutF (TS ps) 0 ((TS ps).length : Nat) = (0, ps.length) := by
  have hk : ∀ i, i < ps.length → kd (TS ps) i ≠ 0 := by
    intro i hi
    rw [TS_kd]

    revert i
    induction ps with
    | nil => intro i hi; simp at hi
    | cons p ps ih =>
      simp only [chainK, Bool.and_eq_true, bne_iff_ne, ne_eq] at hc
      intro i hi
      cases i with
      | zero => exact hc.1.2
      | succ i => exact ih hc.2 i (by simpa using hi)
  have he : ∀ (m i : Nat), i + m = ps.length → endF (kd (TS ps)) (ps.length + 1) i = ps.length := by
    intro m
    induction m with
    | zero =>
      intro i hi
      have : i = ps.length := by omega
      subst this
      refine endF_stop (.inr ?_)
      rw [TS_kd, List.getD_eq_getElem?_getD, List.getElem?_eq_none (by simp)]
      rfl
    | succ m ih =>
      intro i hi
      rw [endF_step (by omega) (hk i (by omega))]
      exact ih (i + 1) (by omega)
  unfold cutF
  rw [TS_length]
  have : (min (((ps.length + 1 : Nat) : Nat) : Int) ((ps.length + 1 : Nat) : Int)).toNat = ps.length + 1 := by omega
  rw [this]
  show ((0 : Int).toNat, endF (kd (TS ps)) (ps.length + 1) 0) = _
  rw [he ps.length 0 (by omega)]
  rfl
end Go.Av
/- Chapter 19, plain: declarations that end, one behind the other. No program in sight. -/
set_option linter.unusedVariables false
set_option linter.unusedSimpArgs false
set_option maxRecDepth 10000
namespace Go.Av
open Go.Proofs Go.Proofs.Ytaldmffahmomoaa
/-- The texts that BlocksDeclsJoin puts together; the last: what stands between two of them. -/
def fr6 : Nat → List Pk
  | 0 => [.id [97], .sg 58, .nu, .sg 59]
  | 1 => [.id [66], .sp, .sg 58, .sp, .sg 123, .id [99], .sg 59, .id [100], .sg 125, .sp, .sg 91, .id [101], .sg 93, .sg 59]
  | 2 => [.id [102], .sg 59]
  | 3 => [.sg 58, .id [103], .sg 59]
  | 4 => [.da [72], .sg 58, .id [105], .dl 33, .id [105, 109, 112, 111, 114, 116, 97, 110, 116], .sg 59]
  | 5 => [.id [106], .sg 58, .sg 40, .id [107], .sg 59, .id [108], .sg 41, .id [109], .sg 59]
  | 6 => [.at_ [110], .sp, .id [111], .sg 59, .id [112], .sg 58, .id [113], .sg 59]
  | 7 => [.id [114], .sg 58, .id [115], .sp, .dl 33, .sp, .id [73, 109, 112, 111, 114, 116, 97, 110, 116], .sp, .sg 59]
  | _ => [.sg 59]
/-- Their declarations. -/
def de6 : Nat → List De
  | 0 => [⟨[97], 2, 3, false⟩]
  | 1 => [⟨[98], 4, 13, false⟩]
  | 2 => []
  | 3 => []
  | 4 => [⟨[45, 45, 72], 2, 3, true⟩]
  | 5 => [⟨[106], 2, 8, false⟩]
  | 6 => [⟨[112], 6, 7, false⟩]
  | 7 => [⟨[114], 2, 3, true⟩]
  | _ => []
/-- A fragment's text. -/
def by6 : Nat → List UInt8
  | 0 => [97, 58, 49, 59]
  | 1 => [66, 32, 58, 32, 123, 99, 59, 100, 125, 32, 91, 101, 93, 59]
  | 2 => [102, 59]
  | 3 => [58, 103, 59]
  | 4 => [45, 45, 72, 58, 105, 33, 105, 109, 112, 111, 114, 116, 97, 110, 116, 59]
  | 5 => [106, 58, 40, 107, 59, 108, 41, 109, 59]
  | 6 => [64, 110, 32, 111, 59, 112, 58, 113, 59]
  | 7 => [114, 58, 115, 32, 33, 32, 73, 109, 112, 111, 114, 116, 97, 110, 116, 32, 59]
  | _ => [59]
theorem case9 {P : Nat → Prop} (h0 : P 0) (h1 : P 1) (h2 : P 2) (h3 : P 3) (h4 : P 4) (h5 : P 5) (h6 : P 6) (h7 : P 7) (h8 : ∀ n, P (n + 8)) : ∀ n, P n
  | 0 => h0 | 1 => h1 | 2 => h2 | 3 => h3 | 4 => h4 | 5 => h5 | 6 => h6 | 7 => h7 | n + 8 => h8 n
theorem by6_flat : ∀ n, (by6 n).map (fun b => ((b.toNat : Nat) : Int)) = flatK (fr6 n) :=
  case9 rfl rfl rfl rfl rfl rfl rfl rfl fun _ => rfl
theorem fr6_chain : ∀ n g, chainK (fr6 n) g = true :=
  case9 (fun _ => rfl) (fun _ => rfl) (fun _ => rfl) (fun _ => rfl) (fun _ => rfl) (fun _ => rfl) (fun _ => rfl) (fun _ => rfl) fun _ _ => rfl
theorem fr6_ascii : ∀ n, ((flatK (fr6 n)).all fun c => decide (13 < c) && decide (c < 128)) = true :=
  case9 rfl rfl rfl rfl rfl rfl rfl rfl fun _ => rfl
/-- Trim, where the part lies inside. -/
def trimG (ts : List Tk) (a b : Nat) : Nat × Nat :=
  if endF (kd ts) b a ≤ spF (kd ts) (endF (kd ts) b a) a then (a, a) else (spF (kd ts) (endF (kd ts) b a) a, bkF (kd ts) (spF (kd ts) (endF (kd ts) b a) a) (endF (kd ts) b a))
theorem trimF_G {ts : List Tk} {a b : Nat} (h : b ≤ ts.length) : trimF ts (a : Nat) (b : Nat) = trimG ts a b := by
  have hc : cutF ts (a : Nat) (b : Nat) = (a, endF (kd ts) b a) := by
    unfold cutF
    rw [show (min ((b : Nat) : Int) (ts.length : Nat)).toNat = b by omega, Int.toNat_natCast]
  unfold trimF trimG
  rw [hc]
theorem trimG_le (ts : List Tk) (a b : Nat) : (trimG ts a b).2 ≤ max a b := by
  have h : endF (kd ts) b a ≤ max a b := by
    rcases Nat.le_total a b with h | h
    · have := (endF_ge (kd ts) b a).2 h; omega
    · rw [endF_stop (.inl h)]; omega
  unfold trimG
  split
  · show a ≤ _; omega
  · have := (bkF_pos (ks := kd ts) (s := spF (kd ts) (endF (kd ts) b a) a) (e := endF (kd ts) b a)).1
    show bkF _ _ _ ≤ _
    omega
def declK (ts : List Tk) (fr : Nat) (q p z : Nat × Nat) : De × Bool := declE (nameF (tx ts fr)) q p z (kd ts (q.2 - 1)) (kd ts (p.2 - 1)) (tx ts (q.2 - 1)) (tx ts (p.2 - 1))
def declJ (ts : List Tk) (fr : Nat) (q p : Nat × Nat) : De × Bool := declK ts fr q p (trimG ts q.1 (p.2 - 1))
def declI (ts : List Tk) (fr : Nat) (q : Nat × Nat) : De × Bool := declJ ts fr q (trimG ts q.1 (q.2 - 1))
def declH (ts : List Tk) (fr to : Nat) : De × Bool :=
  if isB ts (spF (kd ts) to (fr + 1)) to 16 = true then declI ts fr (trimG ts (spF (kd ts) to (fr + 1) + 1) to) else (⟨[], 0, 0, false⟩, false)
theorem declF_H {ts : List Tk} {fr to : Nat} (h : to ≤ ts.length) : declF ts fr to = declH ts fr to := by
  unfold declF declH
  by_cases hb : isB ts (spF (kd ts) to (fr + 1)) to 16 = true
  · rw [if_pos hb, if_pos hb]
    have hk := (isB_lt hb).1
    have e1 : declQ ts to (spF (kd ts) to (fr + 1)) = trimG ts (spF (kd ts) to (fr + 1) + 1) to := trimF_G h
    rw [e1]
    have h1 := trimG_le ts (spF (kd ts) to (fr + 1) + 1) to
    have h2 := trimF_ge ts (spF (kd ts) to (fr + 1) + 1) to
    rw [trimF_G h] at h2
    generalize trimG ts (spF (kd ts) to (fr + 1) + 1) to = q at *
    have e2 : declP ts q = trimG ts q.1 (q.2 - 1) := trimF_G (by omega)
    have h3 := trimG_le ts q.1 (q.2 - 1)
    unfold declG declI declJ declK
    rw [e2]
    have e3 : declZ ts q (trimG ts q.1 (q.2 - 1)) = trimG ts q.1 ((trimG ts q.1 (q.2 - 1)).2 - 1) := trimF_G (by omega)
    rw [e3]
  · rw [if_neg hb, if_neg hb]
theorem decls_skip {ts : List Tk} {e a : Nat} (h : a < e) (hk : kd ts a = 13 ∨ kd ts a = 17) : declsF ts e a = declsF ts e (a + 1) := by
  rw [declsF_step h, if_pos hk]
theorem decls_at {ts : List Tk} {e a nx : Nat} (h : a < e) (hk : kd ts a = 3) (hn : (atRuleF ts e a).2 = nx) : declsF ts e a = declsF ts e nx := by
  rw [declsF_step h, if_neg (by rw [hk]; decide), if_pos hk, hn]
theorem decls_id {ts : List Tk} {e a nx : Nat} {d : De} (h : a < e) (hk : kd ts a = 1) (hn : semiE ts e a = nx) (hd : declF ts a nx = (d, true)) : declsF ts e a = d :: declsF ts e nx := by
  rw [declsF_step h, if_neg (by rw [hk]; decide), if_neg (by rw [hk]; decide), hn, hd, if_pos ⟨hk, rfl⟩]
theorem decls_no {ts : List Tk} {e a nx : Nat} (h : a < e) (h1 : kd ts a ≠ 13) (h2 : kd ts a ≠ 17) (h3 : kd ts a ≠ 3) (hn : semiE ts e a = nx) (hd : kd ts a ≠ 1 ∨ (declF ts a nx).2 = false) : declsF ts e a = declsF ts e nx := by
  rw [declsF_step h, if_neg (fun h => h.elim h1 h2), if_neg h3, hn, if_neg]
  rintro ⟨h4, h5⟩
  rcases hd with hd | hd
  · exact hd h4
  · rw [h5] at hd; cases hd
theorem decl6_0 (ps : List Pk) : declsF (TS (fr6 0 ++ ps)) (ps.length + 4) 0 = de6 0 ++ declsF (TS (fr6 0 ++ ps)) (ps.length + 4) 4 := by
  have hl : ∀ b, b ≤ 4 → b ≤ (TS (fr6 0 ++ ps)).length := fun b hb => by rw [TS_length, List.length_append, show (fr6 0).length = 4 from rfl]; omega
  rw [decls_id (ts := (TS (fr6 0 ++ ps))) (e := (ps.length + 4)) (a := 0) (nx := 3) (d := ⟨[97], 2, 3, false⟩) (by omega) (by kernel_rfl) (by kernel_rfl) (by rw [declF_H (hl 3 (by decide))]; kernel_rfl)]
  rw [decls_skip (ts := (TS (fr6 0 ++ ps))) (e := (ps.length + 4)) (a := 3) (by omega) (.inr (by kernel_rfl))]
  rfl
theorem decl6_1 (ps : List Pk) : declsF (TS (fr6 1 ++ ps)) (ps.length + 14) 0 = de6 1 ++ declsF (TS (fr6 1 ++ ps)) (ps.length + 14) 14 := by
  have hl : ∀ b, b ≤ 14 → b ≤ (TS (fr6 1 ++ ps)).length := fun b hb => by rw [TS_length, List.length_append, show (fr6 1).length = 14 from rfl]; omega
  rw [decls_id (ts := (TS (fr6 1 ++ ps))) (e := (ps.length + 14)) (a := 0) (nx := 13) (d := ⟨[98], 4, 13, false⟩) (by omega) (by kernel_rfl) (by kernel_rfl) (by rw [declF_H (hl 13 (by decide))]; kernel_rfl)]
  rw [decls_skip (ts := (TS (fr6 1 ++ ps))) (e := (ps.length + 14)) (a := 13) (by omega) (.inr (by kernel_rfl))]
  rfl
theorem decl6_2 (ps : List Pk) : declsF (TS (fr6 2 ++ ps)) (ps.length + 2) 0 = de6 2 ++ declsF (TS (fr6 2 ++ ps)) (ps.length + 2) 2 := by
  have hl : ∀ b, b ≤ 2 → b ≤ (TS (fr6 2 ++ ps)).length := fun b hb => by rw [TS_length, List.length_append, show (fr6 2).length = 2 from rfl]; omega
  have hk : kd (TS (fr6 2 ++ ps)) 0 = 1 := by kernel_rfl
  rw [decls_no (ts := (TS (fr6 2 ++ ps))) (e := (ps.length + 2)) (a := 0) (nx := 1) (by omega) (by rw [hk]; decide) (by rw [hk]; decide) (by rw [hk]; decide) (by kernel_rfl) (.inr (by rw [declF_H (hl 1 (by decide))]; kernel_rfl))]
  rw [decls_skip (ts := (TS (fr6 2 ++ ps))) (e := (ps.length + 2)) (a := 1) (by omega) (.inr (by kernel_rfl))]
  rfl
theorem decl6_3 (ps : List Pk) : declsF (TS (fr6 3 ++ ps)) (ps.length + 3) 0 = de6 3 ++ declsF (TS (fr6 3 ++ ps)) (ps.length + 3) 3 := by
  have hl : ∀ b, b ≤ 3 → b ≤ (TS (fr6 3 ++ ps)).length := fun b hb => by rw [TS_length, List.length_append, show (fr6 3).length = 3 from rfl]; omega
  have hk : kd (TS (fr6 3 ++ ps)) 0 = 16 := by kernel_rfl
  rw [decls_no (ts := (TS (fr6 3 ++ ps))) (e := (ps.length + 3)) (a := 0) (nx := 2) (by omega) (by rw [hk]; decide) (by rw [hk]; decide) (by rw [hk]; decide) (by kernel_rfl) (.inl (by rw [hk]; decide))]
  rw [decls_skip (ts := (TS (fr6 3 ++ ps))) (e := (ps.length + 3)) (a := 2) (by omega) (.inr (by kernel_rfl))]
  rfl
theorem decl6_4 (ps : List Pk) : declsF (TS (fr6 4 ++ ps)) (ps.length + 6) 0 = de6 4 ++ declsF (TS (fr6 4 ++ ps)) (ps.length + 6) 6 := by
  have hl : ∀ b, b ≤ 6 → b ≤ (TS (fr6 4 ++ ps)).length := fun b hb => by rw [TS_length, List.length_append, show (fr6 4).length = 6 from rfl]; omega
  rw [decls_id (ts := (TS (fr6 4 ++ ps))) (e := (ps.length + 6)) (a := 0) (nx := 5) (d := ⟨[45, 45, 72], 2, 3, true⟩) (by omega) (by kernel_rfl) (by kernel_rfl) (by rw [declF_H (hl 5 (by decide))]; kernel_rfl)]
  rw [decls_skip (ts := (TS (fr6 4 ++ ps))) (e := (ps.length + 6)) (a := 5) (by omega) (.inr (by kernel_rfl))]
  rfl
theorem decl6_5 (ps : List Pk) : declsF (TS (fr6 5 ++ ps)) (ps.length + 9) 0 = de6 5 ++ declsF (TS (fr6 5 ++ ps)) (ps.length + 9) 9 := by
  have hl : ∀ b, b ≤ 9 → b ≤ (TS (fr6 5 ++ ps)).length := fun b hb => by rw [TS_length, List.length_append, show (fr6 5).length = 9 from rfl]; omega
  rw [decls_id (ts := (TS (fr6 5 ++ ps))) (e := (ps.length + 9)) (a := 0) (nx := 8) (d := ⟨[106], 2, 8, false⟩) (by omega) (by kernel_rfl) (by kernel_rfl) (by rw [declF_H (hl 8 (by decide))]; kernel_rfl)]
  rw [decls_skip (ts := (TS (fr6 5 ++ ps))) (e := (ps.length + 9)) (a := 8) (by omega) (.inr (by kernel_rfl))]
  rfl
theorem decl6_6 (ps : List Pk) : declsF (TS (fr6 6 ++ ps)) (ps.length + 8) 0 = de6 6 ++ declsF (TS (fr6 6 ++ ps)) (ps.length + 8) 8 := by
  have hl : ∀ b, b ≤ 8 → b ≤ (TS (fr6 6 ++ ps)).length := fun b hb => by rw [TS_length, List.length_append, show (fr6 6).length = 8 from rfl]; omega
  rw [decls_at (ts := (TS (fr6 6 ++ ps))) (e := (ps.length + 8)) (a := 0) (nx := 4) (by omega) (by kernel_rfl) (by kernel_rfl)]
  rw [decls_id (ts := (TS (fr6 6 ++ ps))) (e := (ps.length + 8)) (a := 4) (nx := 7) (d := ⟨[112], 6, 7, false⟩) (by omega) (by kernel_rfl) (by kernel_rfl) (by rw [declF_H (hl 7 (by decide))]; kernel_rfl)]
  rw [decls_skip (ts := (TS (fr6 6 ++ ps))) (e := (ps.length + 8)) (a := 7) (by omega) (.inr (by kernel_rfl))]
  rfl
theorem decl6_7 (ps : List Pk) : declsF (TS (fr6 7 ++ ps)) (ps.length + 9) 0 = de6 7 ++ declsF (TS (fr6 7 ++ ps)) (ps.length + 9) 9 := by
  have hl : ∀ b, b ≤ 9 → b ≤ (TS (fr6 7 ++ ps)).length := fun b hb => by rw [TS_length, List.length_append, show (fr6 7).length = 9 from rfl]; omega
  rw [decls_id (ts := (TS (fr6 7 ++ ps))) (e := (ps.length + 9)) (a := 0) (nx := 8) (d := ⟨[114], 2, 3, true⟩) (by omega) (by kernel_rfl) (by kernel_rfl) (by rw [declF_H (hl 8 (by decide))]; kernel_rfl)]
  rw [decls_skip (ts := (TS (fr6 7 ++ ps))) (e := (ps.length + 9)) (a := 8) (by omega) (.inr (by kernel_rfl))]
  rfl
theorem decl6_8 (ps : List Pk) : declsF (TS (fr6 8 ++ ps)) (ps.length + 1) 0 = de6 8 ++ declsF (TS (fr6 8 ++ ps)) (ps.length + 1) 1 := by
  have hl : ∀ b, b ≤ 1 → b ≤ (TS (fr6 8 ++ ps)).length := fun b hb => by rw [TS_length, List.length_append, show (fr6 8).length = 1 from rfl]; omega
  rw [decls_skip (ts := (TS (fr6 8 ++ ps))) (e := (ps.length + 1)) (a := 0) (by omega) (.inr (by kernel_rfl))]
  rfl
theorem decl6 (ps : List Pk) : ∀ n, declsF (TS (fr6 n ++ ps)) (ps.length + (fr6 n).length) 0 = de6 n ++ declsF (TS (fr6 n ++ ps)) (ps.length + (fr6 n).length) (fr6 n).length :=
  case9 (decl6_0 ps) (decl6_1 ps) (decl6_2 ps) (decl6_3 ps) (decl6_4 ps) (decl6_5 ps) (decl6_6 ps) (decl6_7 ps) fun _ => decl6_8 ps
def frs6 (ns : List Nat) : List Pk := ns.flatMap fr6
def des6 : Nat → List Nat → List De
  | _, [] => []
  | p, n :: ns => (de6 n).map (De.sh p) ++ des6 (p + (fr6 n).length) ns
theorem de_sh_sh (p q : Nat) (r : De) : (r.sh q).sh p = r.sh (p + q) := by
  unfold De.sh
  simp [Nat.add_assoc]
theorem des6_sh (p : Nat) : ∀ (ns : List Nat) (q : Nat), (des6 q ns).map (De.sh p) = des6 (p + q) ns
  | [], _ => rfl
  | n :: ns, q => by
    rw [des6, des6, List.map_append, List.map_map, des6_sh p ns, Nat.add_assoc]
    congr 1
    refine List.map_congr_left fun d _ => ?_
    exact de_sh_sh p q d
theorem decls_all : ∀ (ns : List Nat), declsF (TS (frs6 ns)) (frs6 ns).length 0 = des6 0 ns
  | [] => rfl
  | n :: ns => by
    have h := decl6 (frs6 ns) n
    have h2 := declsF_sh (sh_TS (fr6 n) (frs6 ns)) (e := (frs6 ns).length) (a := 0)
    have e : frs6 (n :: ns) = fr6 n ++ frs6 ns := rfl
    rw [e, List.length_append, Nat.add_comm, h, des6, Nat.add_comm]
    rw [Nat.add_zero] at h2
    rw [h2, decls_all ns, des6_sh]
    have : (de6 n).map (De.sh 0) = de6 n := by
      have : De.sh 0 = id := by funext d; unfold De.sh; simp
      rw [this, List.map_id]
    rw [this]
    simp
theorem des6_append : ∀ (a b : List Nat) (p : Nat), des6 p (a ++ b) = des6 p a ++ des6 (p + (frs6 a).length) b
  | [], b, p => rfl
  | n :: a, b, p => by
    rw [List.cons_append, des6, des6, des6_append a b, List.append_assoc, show frs6 (n :: a) = fr6 n ++ frs6 a from rfl, List.length_append, Nat.add_assoc]
theorem chain_frs6 {h : Option Int} : ∀ (ns : List Nat), chainK (frs6 ns) h = true
  | [] => rfl
  | n :: ns => chainK_append (fr6_chain n) (chain_frs6 ns)
theorem flat_frs6 : ∀ (ns : List Nat), flatK (frs6 ns) = (ns.flatMap by6).map (fun b => ((b.toNat : Nat) : Int))
  | [] => rfl
  | n :: ns => by
    rw [show frs6 (n :: ns) = fr6 n ++ frs6 ns from rfl, flatK_append, flat_frs6 ns, List.flatMap_cons, List.map_append, by6_flat]
theorem ascii_frs6 : ∀ (ns : List Nat), ((flatK (frs6 ns)).all fun c => decide (13 < c) && decide (c < 128)) = true
  | [] => rfl
  | n :: ns => by
    rw [show frs6 (n :: ns) = fr6 n ++ frs6 ns from rfl, flatK_append, List.all_append, fr6_ascii, ascii_frs6 ns]
    rfl
theorem read_frs6 (ns : List Nat) : readT ((ns.flatMap by6).map (fun b => ((b.toNat : Nat) : Int))) = TS (frs6 ns) := by
  rw [← flat_frs6, read_place (chain_frs6 ns) (ascii_frs6 ns)]
  rfl
end Go.Av
/- Chapter 19: the texts that the laws on joined rules and declarations put together. -/
set_option linter.unusedSimpArgs false
set_option linter.unusedVariables false
set_option linter.unusedSectionVars false
set_option maxRecDepth 100000
namespace Go.Av
open Go.Proofs Go.Proofs.Ytaldmffahmomoaa Go.RowKit
theorem sp8_L : callL Try.prog ext9 8 [] [] = some (.bool true, [], []) := callL_ext rfl
theorem bLen (zs : List Int) : ((zs.map (D.int .u8)).length : Int) = zs.length := by simp
def strs5 : List D := [.str [97, 123, 125], .str [98, 123, 120, 58, 49, 59, 121, 58, 123, 122, 125, 125], .str [64, 109, 123, 99, 123, 125, 125], .str [64, 110, 32, 100, 59], .str [91, 101, 61, 123, 102, 125, 93, 123, 125], .str [103, 40, 104, 123, 105, 125, 41, 123, 106, 125], .str [107, 123, 91, 40, 108, 41, 93, 125]]
def strs6 : List D := [.str [97, 58, 49], .str [66, 32, 58, 32, 123, 99, 59, 100, 125, 32, 91, 101, 93], .str [102], .str [58, 103], .str [45, 45, 72, 58, 105, 33, 105, 109, 112, 111, 114, 116, 97, 110, 116], .str [106, 58, 40, 107, 59, 108, 41, 109], .str [64, 110, 32, 111, 59, 112, 58, 113], .str [114, 58, 115, 32, 33, 32, 73, 109, 112, 111, 114, 116, 97, 110, 116, 32]]
theorem bs5 : dbuildSlice Try.prog 62 7 [(0, .str [97, 123, 125]), (1, .str [98, 123, 120, 58, 49, 59, 121, 58, 123, 122, 125, 125]), (2, .str [64, 109, 123, 99, 123, 125, 125]), (3, .str [64, 110, 32, 100, 59]), (4, .str [91, 101, 61, 123, 102, 125, 93, 123, 125]), (5, .str [103, 40, 104, 123, 105, 125, 41, 123, 106, 125]), (6, .str [107, 123, 91, 40, 108, 41, 93, 125])] = some (.list strs5) := by kernel_rfl
theorem bs6 : dbuildSlice Try.prog 62 8 [(0, .str [97, 58, 49]), (1, .str [66, 32, 58, 32, 123, 99, 59, 100, 125, 32, 91, 101, 93]), (2, .str [102]), (3, .str [58, 103]), (4, .str [45, 45, 72, 58, 105, 33, 105, 109, 112, 111, 114, 116, 97, 110, 116]), (5, .str [106, 58, 40, 107, 59, 108, 41, 109]), (6, .str [64, 110, 32, 111, 59, 112, 58, 113]), (7, .str [114, 58, 115, 32, 33, 32, 73, 109, 112, 111, 114, 116, 97, 110, 116, 32])] = some (.list strs6) := by kernel_rfl
/-- What stands ahead of the semicolon. -/
def lit6 : Nat → List UInt8
  | 0 => [97, 58, 49]
  | 1 => [66, 32, 58, 32, 123, 99, 59, 100, 125, 32, 91, 101, 93]
  | 2 => [102]
  | 3 => [58, 103]
  | 4 => [45, 45, 72, 58, 105, 33, 105, 109, 112, 111, 114, 116, 97, 110, 116]
  | 5 => [106, 58, 40, 107, 59, 108, 41, 109]
  | 6 => [64, 110, 32, 111, 59, 112, 58, 113]
  | _ => [114, 58, 115, 32, 33, 32, 73, 109, 112, 111, 114, 116, 97, 110, 116, 32]
theorem strs5_len : strs5.length = 7 := rfl
theorem strs6_len : strs6.length = 8 := rfl
theorem strs5_at : ∀ k, k < 7 → strs5.getD k .bad = .str (by5 k)
  | 0, _ => rfl | 1, _ => rfl | 2, _ => rfl | 3, _ => rfl | 4, _ => rfl | 5, _ => rfl | 6, _ => rfl
  | k + 7, h => absurd h (by omega)
theorem strs6_at : ∀ k, k < 8 → strs6.getD k .bad = .str (lit6 k) ∧ lit6 k ++ [59] = by6 k
  | 0, _ => ⟨rfl, rfl⟩ | 1, _ => ⟨rfl, rfl⟩ | 2, _ => ⟨rfl, rfl⟩ | 3, _ => ⟨rfl, rfl⟩ | 4, _ => ⟨rfl, rfl⟩ | 5, _ => ⟨rfl, rfl⟩ | 6, _ => ⟨rfl, rfl⟩ | 7, _ => ⟨rfl, rfl⟩
  | k + 8, h => absurd h (by omega)
theorem by5_len : ∀ n, (by5 n).length ≤ 12 := case7 (by decide) (by decide) (by decide) (by decide) (by decide) (by decide) fun _ => by show ([107, 123, 91, 40, 108, 41, 93, 125] : List UInt8).length ≤ 12; decide
theorem by6_len : ∀ n, (by6 n).length ≤ 17 := case9 (by decide) (by decide) (by decide) (by decide) (by decide) (by decide) (by decide) (by decide) fun _ => by show ([59] : List UInt8).length ≤ 17; decide
theorem lit6_len {k : Nat} (h : k < 8) : (lit6 k).length ≤ 16 := by
  have h1 := by6_len k
  rw [← (strs6_at k h).2, List.length_append, List.length_singleton] at h1
  omega
/-- Which fragments bytes stand for. -/
def ix7 (ns : List Int) : List Nat := ns.map fun n => n.toNat % 7
def ix8 (ns : List Int) : List Nat := ns.map fun n => n.toNat % 8
def tx5 (ns : List Int) : List UInt8 := (ix7 ns).flatMap by5
def tx6 (ns : List Int) : List UInt8 := (ix8 ns).flatMap by6
theorem flatM_len {f : Nat → List UInt8} {c : Nat} (h : ∀ n, (f n).length ≤ c) : ∀ l : List Nat, (l.flatMap f).length ≤ c * l.length
  | [] => by simp
  | n :: l => by
    have h1 := h n
    have h2 := flatM_len h l
    rw [List.flatMap_cons, List.length_append, List.length_cons, Nat.mul_succ]
    omega
theorem tx5_snoc (ns : List Int) (i : Nat) (h : i < ns.length) : tx5 (ns.take (i + 1)) = tx5 (ns.take i) ++ by5 ((ns.getD i 0).toNat % 7) := by
  have e : ns.getD i 0 = ns[i] := by simp [List.getD, h]
  rw [e, List.take_succ_eq_append_getElem h]
  unfold tx5 ix7
  rw [List.map_append, List.flatMap_append]
  simp
theorem tx6_snoc (ns : List Int) (i : Nat) (h : i < ns.length) : tx6 (ns.take (i + 1)) = tx6 (ns.take i) ++ by6 ((ns.getD i 0).toNat % 8) := by
  have e : ns.getD i 0 = ns[i] := by simp [List.getD, h]
  rw [e, List.take_succ_eq_append_getElem h]
  unfold tx6 ix8
  rw [List.map_append, List.flatMap_append]
  simp
theorem tx5_len (ns : List Int) : (tx5 ns).length ≤ 12 * ns.length := by
  have := flatM_len by5_len (ix7 ns)
  unfold tx5
  simpa [ix7] using this
theorem tx6_len (ns : List Int) : (tx6 ns).length ≤ 17 * ns.length := by
  have := flatM_len by6_len (ix8 ns)
  unfold tx6
  simpa [ix8] using this
theorem u8_at (ns : List Int) (i : Nat) (h : i < ns.length) : (ns.map (D.int .u8)).getD i .bad = .int .u8 (ns.getD i 0) := by simp [List.getD, h]
set_option maxHeartbeats 4000000 in
theorem text_L5 (ns : List Int) (hz : BytesOK ns) (hl : ns.length ≤ 1000000) : callL Try.prog ext9 17 [.list (ns.map (D.int .u8))] [] = some (.str (tx5 ns), [.no], []) := by
  have lN := bLen ns
  refine callK (m := 21) (res := [2]) (rs := [.tmp 2]) rfl Try.func17 rfl rfl rfl rfl rfl ?_
  have HZ := Hd.mk hz
  have HL := Hd.mk hl
  clear hz hl
  repeat' (first
    | simp only [*, go_seq, go_block, go_loop, go_region, go_ops_nil, go_ops, okG_some, guardG, opG, isPtr, inB, sval, stake, eats, eaters, get, cval, cval1, croom, St.taken, put_slot, dem_none, entry_slot, ↓reduceIte, Nat.reduceLT, reduceCtorEq, decide_true, List.filterMap_cons, List.filterMap_nil, Option.map_some, List.getD_cons_zero, List.contains_cons, List.contains_nil, List.map_cons, List.map_nil, Bool.or_false, Nat.reduceBEq, Bool.false_eq_true, row9, frz9, frzOf_def, frz_nil, List.length_nil, Bool.and_false, len22]
    | (refine drW_intro (by kernel_rfl) ?_)
    | (refine gw_intro (fun h => ?_) (fun h => ?_) <;> (try simp only [beq_true, beq_false, Bool.not_eq_eq_eq_not, Bool.not_true, Bool.not_false, Bool.not_not, decide_eq_true_eq, decide_eq_false_iff_not, ge_iff_le, gt_iff_lt] at h)))
  refine loopH (fun st => ∃ i : Nat, i ≤ ns.length ∧ st.slot 6 = .list (ns.map (D.int .u8)) ∧ st.slot 7 = .int .i64 ns.length ∧ st.slot 8 = .int .i64 i ∧ st.slot 3 = .str (tx5 (ns.take i)) ∧ st.room 3 = []) (fun st => ns.length - slotI st 8) ?_ ?_
  · refine ⟨0, Nat.zero_le _, ?_, ?_, ?_, ?_, ?_⟩
    all_goals simp only [*, put_slot, put_room, ↓reduceIte, Nat.reduceEqDiff, List.take_zero]
    all_goals rfl
  · rintro st K ⟨i, hi, g6, g7, g8, g3, r3⟩ hn hx hr
    have hz : BytesOK ns := HZ
    have hl : ns.length ≤ 1000000 := HL
    by_cases h : i < ns.length
    · have g1 : (i : Int) < ns.length := by omega
      have hw := wrapS i (by omega)
      have hat := u8_at ns i h
      have hzi := hz i h
      obtain ⟨k, hk0⟩ : ∃ k, k = (ns.getD i 0).toNat % 7 := ⟨_, rfl⟩
      have hk : k < 7 := by omega
      have hm : (ns.getD i 0).tmod 7 = ((k : Nat) : Int) := by rw [Int.tmod_eq_emod_of_nonneg hzi.1, hk0]; omega
      have hkl : ((k : Nat) : Int) < (strs5.length : Int) := by rw [strs5_len]; omega
      have hg := strs5_at k hk
      have hs := tx5_snoc ns i h
      have hl1 := tx5_len (ns.take i)
      have hl2 := by5_len k
      rw [List.length_take] at hl1
      have c2 : (tx5 (ns.take i)).length + (by5 k).length ≤ 1099511627776 := by omega
      rw [← hk0] at hs
      generalize by5 k = q at *
      generalize ns.getD i 0 = c at *
      have HS := Hd.mk hs
      clear hs hz hl hzi hk0 hk hx hr hl1 hl2
      repeat' (first
    | simp only [*, bs5, Int.reduceEq, go_nil, go_seq, go_cond, go_block, go_blk, go_skip, go_region, go_ops_nil, go_ops, okG_some, cwD_bool, gw_true, guardG, opG, inB, sval, stake, eats, eaters, get, cval, cval1, St.taken, put_slot, put_room, dem_none, dem_slot, ↓reduceIte, Nat.reduceEqDiff, Nat.reduceLT, decide_true, List.filterMap_cons, List.filterMap_nil, Option.map_some, List.getElem?_cons_zero, List.contains_cons, List.contains_nil, List.map_cons, List.map_nil, beq_self_eq_true, Bool.or_false, Nat.reduceBEq, Bool.false_eq_true, dbin, dIntBin, row9, frz9, frzOf_def, frz_nil, List.length_nil, List.length_cons, dcells, Nat.zero_add, Bool.and_false, Int.natCast_nonneg, Int.toNat_natCast, and_self, dStrBin, dp5, dp9, ia22, ia62]
    | (refine drW_intro (by kernel_rfl) ?_)
    | (refine gw_intro (fun h => ?_) (fun h => ?_) <;> (try simp only [beq_true, beq_false, Bool.not_eq_eq_eq_not, Bool.not_true, Bool.not_false, Bool.not_not, decide_eq_true_eq, decide_eq_false_iff_not, ge_iff_le, gt_iff_lt] at h)))
      refine hn _ ⟨i + 1, h, ?_, ?_, ?_, ?_, ?_⟩ ?_
      · simp only [*, put_slot, dem_slot, ↓reduceIte, Nat.reduceEqDiff]
      · simp only [*, put_slot, dem_slot, ↓reduceIte, Nat.reduceEqDiff]
      · simp only [*, put_slot, ↓reduceIte]
      · rw [show tx5 (ns.take (i + 1)) = _ from HS]
        simp only [*, put_slot, ↓reduceIte, Nat.reduceEqDiff]
      · simp only [*, put_room, ↓reduceIte, Nat.reduceEqDiff]
      · simp only [slotI, *, put_slot, ↓reduceIte, Int.toNat_natCast]
        omega
    · have g1 : ¬ (i : Int) < ns.length := by omega
      have e : ns.take i = ns := List.take_of_length_le (by omega)
      rw [e] at g3
      clear hn hr hz hl
      repeat' (first
    | simp only [*, go_nil, go_seq, go_cond, go_exit, go_xcode, go_region, go_ops_nil, go_ops, okG_some, cwD_bool, gw_false, guardG, opG, inB, sval, stake, eats, eaters, get, put_slot, dem_none, ↓reduceIte, Nat.reduceLT, decide_true, decide_false, List.filterMap_cons, List.filterMap_nil, Option.map_some, List.contains_cons, List.contains_nil, Bool.or_false, Bool.false_eq_true, dbin, dIntBin, row9, frz9, frzOf_def, frz_nil]
    | (refine drW_intro (by kernel_rfl) ?_)
    | (refine gw_intro (fun h => ?_) (fun h => ?_) <;> (try simp only [beq_true, beq_false, Bool.not_eq_eq_eq_not, Bool.not_true, Bool.not_false, Bool.not_not, decide_eq_true_eq, decide_eq_false_iff_not, ge_iff_le, gt_iff_lt] at h)))
      refine hx _ _ ?_
      repeat' (first
    | simp only [*, go_seq, go_retc, go_xblk, go_region, go_ops_nil, go_ops, okG_some, guardG, opG, inB, sval, stake, eats, eaters, get, St.taken, put_slot, put_room, put_box, dem_box, endQ, endR, endV, rvars, rvar, room1, ↓reduceIte, Nat.reduceEqDiff, Nat.reduceLT, decide_true, List.filterMap_cons, List.filterMap_nil, List.contains_cons, List.contains_nil, List.map_nil, beq_self_eq_true, Bool.or_false, Nat.reduceBEq, Bool.false_eq_true, row9, frz9, frzOf_def, frz_nil, pureB, leaf, leafN, List.take_nil, List.range_zero, Bool.and_false, and_self]
    | (refine drW_intro (by kernel_rfl) ?_)
    | (refine gw_intro (fun h => ?_) (fun h => ?_) <;> (try simp only [beq_true, beq_false, Bool.not_eq_eq_eq_not, Bool.not_true, Bool.not_false, Bool.not_not, decide_eq_true_eq, decide_eq_false_iff_not, ge_iff_le, gt_iff_lt] at h)))
set_option maxHeartbeats 4000000 in
theorem decls_L6 (ns : List Int) (hz : BytesOK ns) (hl : ns.length ≤ 1000000) : callL Try.prog ext9 18 [.list (ns.map (D.int .u8))] [] = some (.str (tx6 ns), [.no], []) := by
  have lN := bLen ns
  refine callK (m := 22) (res := [2]) (rs := [.tmp 2]) rfl Try.func18 rfl rfl rfl rfl rfl ?_
  have HZ := Hd.mk hz
  have HL := Hd.mk hl
  clear hz hl
  repeat' (first
    | simp only [*, go_seq, go_block, go_loop, go_region, go_ops_nil, go_ops, okG_some, guardG, opG, isPtr, inB, sval, stake, eats, eaters, get, cval, cval1, croom, St.taken, put_slot, dem_none, entry_slot, ↓reduceIte, Nat.reduceLT, reduceCtorEq, decide_true, List.filterMap_cons, List.filterMap_nil, Option.map_some, List.getD_cons_zero, List.contains_cons, List.contains_nil, List.map_cons, List.map_nil, Bool.or_false, Nat.reduceBEq, Bool.false_eq_true, row9, frz9, frzOf_def, frz_nil, List.length_nil, Bool.and_false, len22]
    | (refine drW_intro (by kernel_rfl) ?_)
    | (refine gw_intro (fun h => ?_) (fun h => ?_) <;> (try simp only [beq_true, beq_false, Bool.not_eq_eq_eq_not, Bool.not_true, Bool.not_false, Bool.not_not, decide_eq_true_eq, decide_eq_false_iff_not, ge_iff_le, gt_iff_lt] at h)))
  refine loopH (fun st => ∃ i : Nat, i ≤ ns.length ∧ st.slot 6 = .list (ns.map (D.int .u8)) ∧ st.slot 7 = .int .i64 ns.length ∧ st.slot 8 = .int .i64 i ∧ st.slot 3 = .str (tx6 (ns.take i)) ∧ st.room 3 = []) (fun st => ns.length - slotI st 8) ?_ ?_
  · refine ⟨0, Nat.zero_le _, ?_, ?_, ?_, ?_, ?_⟩
    all_goals simp only [*, put_slot, put_room, ↓reduceIte, Nat.reduceEqDiff, List.take_zero]
    all_goals rfl
  · rintro st K ⟨i, hi, g6, g7, g8, g3, r3⟩ hn hx hr
    have hz : BytesOK ns := HZ
    have hl : ns.length ≤ 1000000 := HL
    by_cases h : i < ns.length
    · have g1 : (i : Int) < ns.length := by omega
      have hw := wrapS i (by omega)
      have hat := u8_at ns i h
      have hzi := hz i h
      obtain ⟨k, hk0⟩ : ∃ k, k = (ns.getD i 0).toNat % 8 := ⟨_, rfl⟩
      have hk : k < 8 := by omega
      have hm : (ns.getD i 0).tmod 8 = ((k : Nat) : Int) := by rw [Int.tmod_eq_emod_of_nonneg hzi.1, hk0]; omega
      have hkl : ((k : Nat) : Int) < (strs6.length : Int) := by rw [strs6_len]; omega
      obtain ⟨hg, hb⟩ := strs6_at k hk
      have hs := tx6_snoc ns i h
      have hl1 := tx6_len (ns.take i)
      have hl2 := lit6_len hk
      rw [List.length_take] at hl1
      have c1 : (lit6 k).length + 1 ≤ 1099511627776 := by omega
      have c2 : (tx6 (ns.take i)).length + (by6 k).length ≤ 1099511627776 := by have := by6_len k; omega
      rw [← hk0] at hs
      generalize lit6 k = q at *
      generalize ns.getD i 0 = c at *
      have HS := Hd.mk hs
      clear hs hz hl hzi hk0 hk hx hr hl1 hl2
      repeat' (first
    | simp only [*, bs6, Int.reduceEq, go_nil, go_seq, go_cond, go_block, go_blk, go_skip, go_region, go_ops_nil, go_ops, okG_some, cwD_bool, gw_true, guardG, opG, inB, sval, stake, eats, eaters, get, cval, cval1, St.taken, put_slot, put_room, dem_none, dem_slot, ↓reduceIte, Nat.reduceEqDiff, Nat.reduceLT, decide_true, List.filterMap_cons, List.filterMap_nil, Option.map_some, List.getElem?_cons_zero, List.contains_cons, List.contains_nil, List.map_cons, List.map_nil, beq_self_eq_true, Bool.or_false, Nat.reduceBEq, Bool.false_eq_true, dbin, dIntBin, row9, frz9, frzOf_def, frz_nil, List.length_nil, List.length_cons, dcells, Nat.zero_add, Bool.and_false, Int.natCast_nonneg, Int.toNat_natCast, and_self, dStrBin, dp5, dp9, ia22, ia62]
    | (refine drW_intro (by kernel_rfl) ?_)
    | (refine gw_intro (fun h => ?_) (fun h => ?_) <;> (try simp only [beq_true, beq_false, Bool.not_eq_eq_eq_not, Bool.not_true, Bool.not_false, Bool.not_not, decide_eq_true_eq, decide_eq_false_iff_not, ge_iff_le, gt_iff_lt] at h)))
      refine hn _ ⟨i + 1, h, ?_, ?_, ?_, ?_, ?_⟩ ?_
      · simp only [*, put_slot, dem_slot, ↓reduceIte, Nat.reduceEqDiff]
      · simp only [*, put_slot, dem_slot, ↓reduceIte, Nat.reduceEqDiff]
      · simp only [*, put_slot, ↓reduceIte]
      · rw [show tx6 (ns.take (i + 1)) = _ from HS]
        simp only [*, put_slot, ↓reduceIte, Nat.reduceEqDiff]
      · simp only [*, put_room, ↓reduceIte, Nat.reduceEqDiff]
      · simp only [slotI, *, put_slot, ↓reduceIte, Int.toNat_natCast]
        omega
    · have g1 : ¬ (i : Int) < ns.length := by omega
      have e : ns.take i = ns := List.take_of_length_le (by omega)
      rw [e] at g3
      clear hn hr hz hl
      repeat' (first
    | simp only [*, go_nil, go_seq, go_cond, go_exit, go_xcode, go_region, go_ops_nil, go_ops, okG_some, cwD_bool, gw_false, guardG, opG, inB, sval, stake, eats, eaters, get, put_slot, dem_none, ↓reduceIte, Nat.reduceLT, decide_true, decide_false, List.filterMap_cons, List.filterMap_nil, Option.map_some, List.contains_cons, List.contains_nil, Bool.or_false, Bool.false_eq_true, dbin, dIntBin, row9, frz9, frzOf_def, frz_nil]
    | (refine drW_intro (by kernel_rfl) ?_)
    | (refine gw_intro (fun h => ?_) (fun h => ?_) <;> (try simp only [beq_true, beq_false, Bool.not_eq_eq_eq_not, Bool.not_true, Bool.not_false, Bool.not_not, decide_eq_true_eq, decide_eq_false_iff_not, ge_iff_le, gt_iff_lt] at h)))
      refine hx _ _ ?_
      repeat' (first
    | simp only [*, go_seq, go_retc, go_xblk, go_region, go_ops_nil, go_ops, okG_some, guardG, opG, inB, sval, stake, eats, eaters, get, St.taken, put_slot, put_room, put_box, dem_box, endQ, endR, endV, rvars, rvar, room1, ↓reduceIte, Nat.reduceEqDiff, Nat.reduceLT, decide_true, List.filterMap_cons, List.filterMap_nil, List.contains_cons, List.contains_nil, List.map_nil, beq_self_eq_true, Bool.or_false, Nat.reduceBEq, Bool.false_eq_true, row9, frz9, frzOf_def, frz_nil, pureB, leaf, leafN, List.take_nil, List.range_zero, Bool.and_false, and_self]
    | (refine drW_intro (by kernel_rfl) ?_)
    | (refine gw_intro (fun h => ?_) (fun h => ?_) <;> (try simp only [beq_true, beq_false, Bool.not_eq_eq_eq_not, Bool.not_true, Bool.not_false, Bool.not_not, decide_eq_true_eq, decide_eq_false_iff_not, ge_iff_le, gt_iff_lt] at h)))
end Go.Av
/- Chapter 19: the law on joined rules hands back true. -/
set_option linter.unusedSimpArgs false
set_option linter.unusedVariables false
set_option linter.unusedSectionVars false
set_option maxRecDepth 100000
namespace Go.Av
open Go.Proofs Go.Proofs.Ytaldmffahmomoaa Go.RowKit
theorem readS {x : List UInt8} {ts : List Tk} (hl : x.length ≤ 100000) (h : readT (x.map fun b => ((b.toNat : Nat) : Int)) = ts) :
    callL Try.prog ext9 9 [.list (x.map fun b => .int .u8 b.toNat)] [] = some (Tks ts, [.own 56], []) ∧ TL ts := by
  subst h
  have hl' : (x.map fun b => ((b.toNat : Nat) : Int)).length ≤ 100000 := by simpa using hl
  refine ⟨?_, tokens_TL (prep_CL _ hl')⟩
  have h := read_L (x.map fun b => ((b.toNat : Nat) : Int)) (fun i hi => by
    have hi' : i < x.length := by simpa using hi
    have : (x.map fun b => ((b.toNat : Nat) : Int)).getD i 0 = ((x[i].toNat : Nat) : Int) := by simp [List.getD, hi']
    rw [this]
    have := x[i].toNat_lt
    omega) hl'
  rw [List.map_map] at h
  exact h
theorem rulesT (ns : List Nat) (hT : TL (TS (frs5 ns))) : ∃ r, callL Try.prog ext9 10 [Tks (TS (frs5 ns)), .int .i64 0, .int .i64 (TS (frs5 ns)).length, .bool true] [] = some (.list ((rus5 0 ns).map Ru.d), [r], []) := by
  obtain ⟨r, h⟩ := rules_L hT 0 ((TS (frs5 ns)).length : Nat) true
  rw [cut_TS _ (chain_frs5 ns), rules_all] at h
  exact ⟨r, h⟩
theorem ru5_small : ∀ n, (ru5 n).fr ≤ 12 ∧ (ru5 n).to ≤ 12 ∧ (ru5 n).opn ≤ 12 ∧ (ru5 n).en ≤ 12 ∧ (fr5 n).length ≤ 12 :=
  case7 (by decide) (by decide) (by decide) (by decide) (by decide) (by decide) fun _ => by
    show (0 : Nat) ≤ 12 ∧ 1 ≤ 12 ∧ 2 ≤ 12 ∧ 7 ≤ 12 ∧ 8 ≤ 12
    decide
theorem rus5_mem {r : Ru} : ∀ (ns : List Nat) (p : Nat), r ∈ rus5 p ns → ∃ n q, r = (ru5 n).sh q ∧ q ≤ p + 12 * ns.length
  | [], _, h => by cases h
  | n :: ns, p, h => by
    rcases List.mem_cons.1 h with h | h
    · exact ⟨n, p, h, Nat.le_add_right _ _⟩
    · obtain ⟨m, q, h1, h2⟩ := rus5_mem ns _ h
      have := (ru5_small n).2.2.2.2
      refine ⟨m, q, h1, ?_⟩
      rw [List.length_cons, Nat.mul_succ]
      omega
/-- What is told of a rule that stands further behind. -/
theorem ru_moved {ns : List Nat} (hn : ns.length ≤ 1000) {i : Nat} (hi : i < (rus5 0 ns).length) {L : List Ru} {M : Nat} (hM : M ≤ 1000000) :
    ∃ (at_ : Bool) (nm : List UInt8) (fr to o e fr' to' o' e' : Nat) (hs : Bool) (d : Int), ((rus5 0 ns).map Ru.d).getD i .bad = .agg [.bool at_, .str nm, .int .i64 (fr : Nat), .int .i64 (to : Nat), .bool hs, .int .i64 (o : Nat), .int .i64 (e : Nat)] ∧
      ((L ++ rus5 M ns).map Ru.d).getD (L.length + i) .bad = .agg [.bool at_, .str nm, .int .i64 (fr' : Nat), .int .i64 (to' : Nat), .bool hs, .int .i64 (o' : Nat), .int .i64 (e' : Nat)] ∧
      fr' = M + fr ∧ fr ≤ 20000 ∧ IntKind.i64.wrap ((e : Int) - (o : Int)) = d ∧ IntKind.i64.wrap ((e' : Int) - (o' : Int)) = d := by
  have e0 : rus5 M ns = (rus5 0 ns).map (Ru.sh M) := (rus5_sh M ns 0).symm
  obtain ⟨n, q, h1, h2⟩ := rus5_mem ns 0 (List.getElem_mem hi)
  have h3 := ru5_small n
  have h4 := ru5_none n
  have g1 : ((rus5 0 ns).map Ru.d).getD i .bad = ((ru5 n).sh q).d := by rw [← h1]; simp [List.getD, hi]
  have g2 : ((L ++ rus5 M ns).map Ru.d).getD (L.length + i) .bad = (((ru5 n).sh q).sh M).d := by
    rw [e0, List.getD_eq_getElem?_getD, List.getElem?_map, List.getElem?_append_right (by omega), Nat.add_sub_cancel_left, List.getElem?_map, List.getElem?_eq_getElem hi, h1]
    rfl
  rw [g1, g2]
  generalize ru5 n = r at *
  refine ⟨_, _, _, _, _, _, _, _, _, _, _, _, rfl, rfl, rfl, ?_, rfl, ?_⟩
  · show q + r.fr ≤ 20000
    omega
  · show IntKind.i64.wrap (((if r.has = true then M + (if r.has = true then q + r.en else r.en) else (if r.has = true then q + r.en else r.en) : Nat) : Int) - ((if r.has = true then M + (if r.has = true then q + r.opn else r.opn) else (if r.has = true then q + r.opn else r.opn) : Nat) : Int)) =
      IntKind.i64.wrap (((if r.has = true then q + r.en else r.en : Nat) : Int) - ((if r.has = true then q + r.opn else r.opn : Nat) : Int))
    cases r.has with
    | true =>
      simp only [if_true]
      congr 1
      omega
    | false => rfl
set_option maxHeartbeats 8000000 in
theorem law5_L (a b : List Int) (ha : BytesOK a) (hb : BytesOK b) : callL Try.prog ext9 5 [.list (a.map (D.int .u8)), .list (b.map (D.int .u8))] [] = some (.bool true, [.no], []) := by
  have lA := bLen a
  have lB := bLen b
  have h8 := sp8_L
  refine callK (m := 119) (res := [4]) (rs := [.tmp 4]) rfl Try.func5 rfl rfl rfl rfl rfl ?_
  by_cases hla : (a.length : Int) > 60
  · clear ha hb
    repeat' (first
    | simp only [*, go_seq, go_cond, go_skip, go_retc, go_region, go_ops_nil, go_ops, okG_some, gwD_bool, cwD_bool, gw_true, gw_false, guardG, opG, isPtr, inB, sval, stake, eats, eaters, get, cval, cval1, croom, St.taken, put_slot, put_room, put_box, dem_none, setBox_slot, setBox_room, entry_slot, entry_room, entry_box, endQ, endR, endV, rvars, rvar, room1, ↓reduceIte, Nat.reduceEqDiff, Nat.reduceLT, reduceCtorEq, decide_true, List.filterMap_cons, List.filterMap_nil, Option.bind_some, Option.map_some, List.getElem?_cons_zero, List.getElem?_cons_succ, List.getD_cons_zero, List.contains_cons, List.contains_nil, List.map_cons, List.map_nil, Bool.or_false, Nat.reduceBEq, Bool.false_eq_true, dbin, dIntBin, okR, callG, row9, frz9, frzOf_def, frz_nil, beq_false, Bool.not_true, pureB, leaf, leafN, List.all_nil, List.append_nil, List.take_nil, List.range_zero, List.length_nil, dun, List.getElem?_nil, Bool.and_false, and_self, gt_iff_lt, dStrBin, len22, stepPtr]
    | (refine drW_intro (by kernel_rfl) ?_)
    | (refine gw_intro (fun h => ?_) (fun h => ?_) <;> (try simp only [beq_true, beq_false, Bool.not_eq_eq_eq_not, Bool.not_true, Bool.not_false, Bool.not_not, decide_eq_true_eq, decide_eq_false_iff_not, ge_iff_le, gt_iff_lt] at h)))
  by_cases hlb : (b.length : Int) > 60
  · clear ha hb
    repeat' (first
    | simp only [*, go_seq, go_cond, go_skip, go_retc, go_region, go_ops_nil, go_ops, okG_some, gwD_bool, cwD_bool, gw_true, gw_false, guardG, opG, isPtr, inB, sval, stake, eats, eaters, get, cval, cval1, croom, St.taken, put_slot, put_room, put_box, dem_none, setBox_slot, setBox_room, entry_slot, entry_room, entry_box, endQ, endR, endV, rvars, rvar, room1, ↓reduceIte, Nat.reduceEqDiff, Nat.reduceLT, reduceCtorEq, decide_true, decide_false, List.filterMap_cons, List.filterMap_nil, Option.bind_some, Option.map_some, List.getElem?_cons_zero, List.getElem?_cons_succ, List.getD_cons_zero, List.getD_cons_succ, List.contains_cons, List.contains_nil, List.map_cons, List.map_nil, beq_self_eq_true, Bool.or_false, Nat.reduceBEq, Bool.false_eq_true, dbin, dIntBin, okR, callG, row9, frz9, frzOf_def, frz_nil, Bool.not_true, pureB, leaf, leafN, List.all_nil, List.append_nil, List.take_nil, List.range_zero, List.length_nil, dun, List.getElem?_nil, Bool.and_false, and_self, gt_iff_lt, dStrBin, len22, stepPtr]
    | (refine drW_intro (by kernel_rfl) ?_)
    | (refine gw_intro (fun h => ?_) (fun h => ?_) <;> (try simp only [beq_true, beq_false, Bool.not_eq_eq_eq_not, Bool.not_true, Bool.not_false, Bool.not_not, decide_eq_true_eq, decide_eq_false_iff_not, ge_iff_le, gt_iff_lt] at h)))
  have hA := text_L5 a ha (by omega)
  have hB := text_L5 b hb (by omega)
  have xl := tx5_len a
  have yl := tx5_len b
  have eAB : tx5 a ++ tx5 b = (ix7 a ++ ix7 b).flatMap by5 := by unfold tx5; rw [List.flatMap_append]
  obtain ⟨hP, tP⟩ := readS (x := tx5 a) (by omega) (read_frs5 (ix7 a))
  obtain ⟨hQ, tQ⟩ := readS (x := tx5 b) (by omega) (read_frs5 (ix7 b))
  obtain ⟨hN, tN⟩ := readS (x := tx5 a ++ tx5 b) (ts := TS (frs5 (ix7 a ++ ix7 b))) (by rw [List.length_append]; omega) (by rw [eAB]; exact read_frs5 (ix7 a ++ ix7 b))
  have hcat : (tx5 a).length + (tx5 b).length ≤ 1099511627776 := by omega
  obtain ⟨r1, hR1⟩ := rulesT _ tP
  obtain ⟨r2, hR2⟩ := rulesT _ tQ
  obtain ⟨r3, hR3⟩ := rulesT _ tN
  have hM : (TS (frs5 (ix7 a))).length = (frs5 (ix7 a)).length + 1 := TS_length _
  have hM2 := tP.len
  have e3 := rus5_append (ix7 a) (ix7 b) 0
  rw [Nat.zero_add] at e3
  rw [e3] at hR3
  have n1 := rus5_length (ix7 a) 0
  have n2 := rus5_length (ix7 b) (frs5 (ix7 a)).length
  have n3 := rus5_length (ix7 b) 0
  have n4 : (ix7 a).length = a.length := by simp [ix7]
  have n5 : (ix7 b).length = b.length := by simp [ix7]
  have hmv : ∀ i, i < (rus5 0 (ix7 b)).length → _ := fun i hi => ru_moved (ns := ix7 b) (by omega) hi (L := rus5 0 (ix7 a)) (M := (frs5 (ix7 a)).length) (by omega)
  have l1 := TkLen (TS (frs5 (ix7 a)))
  have l2 := TkLen (TS (frs5 (ix7 b)))
  have l3 := TkLen (TS (frs5 (ix7 a ++ ix7 b)))
  generalize TS (frs5 (ix7 a)) = P at *
  generalize TS (frs5 (ix7 b)) = Q at *
  generalize TS (frs5 (ix7 a ++ ix7 b)) = N at *
  generalize rus5 0 (ix7 a) = L at *
  have hnn : (L ++ rus5 (frs5 (ix7 a)).length (ix7 b)).length = L.length + (rus5 0 (ix7 b)).length := by rw [List.length_append, n2, n3]
  generalize rus5 0 (ix7 b) = R at *
  generalize L ++ rus5 (frs5 (ix7 a)).length (ix7 b) = S at *
  generalize (frs5 (ix7 a)).length = M at *
  have k1 := lenRu L
  have k2 := lenRu R
  have k3 := lenRu S
  have hw0 : IntKind.i64.wrap ((L.length : Int) + (R.length : Int)) = (S.length : Int) := by rw [wrap64 _ (by omega) (by omega)]; omega
  have hq0 : ((S.length : Int) != (S.length : Int)) = false := by simp
  have hq1 : ((L.length : Int) != (a.length : Int)) = false := by rw [show L.length = a.length by omega]; simp
  have HM := Hd.mk hM
  have HM2 := Hd.mk hM2
  have HN := Hd.mk hnn
  have HLa : Hd (L.length ≤ 60 ∧ R.length ≤ 60) := ⟨by omega, by omega⟩
  have HV := Hd.mk hmv
  clear ha hb xl yl eAB tP tQ tN hM hM2 e3 n1 n2 n3 n4 n5 hmv hnn
  repeat' (first
    | simp only [*, go_seq, go_cond, go_block, go_skip, go_loop, go_region, go_ops_nil, go_ops, okG_some, gwD_bool, cwD_bool, gw_true, gw_false, guardG, opG, isPtr, inB, sval, stake, eats, eaters, get, cval, cval1, croom, St.taken, put_slot, put_room, dem_none, dem_slot, dem_room, setBox_slot, setBox_room, entry_slot, entry_room, ↓reduceIte, Nat.reduceEqDiff, Nat.reduceLT, reduceCtorEq, decide_true, decide_false, List.filterMap_cons, List.filterMap_nil, Option.bind_some, Option.map_some, List.getElem?_cons_zero, List.getElem?_cons_succ, List.getD_cons_zero, List.getD_cons_succ, List.contains_cons, List.contains_nil, List.map_cons, List.map_nil, beq_self_eq_true, beq_iff_eq, Bool.or_false, Bool.and_true, Bool.true_and, Nat.reduceBEq, Bool.false_eq_true, dbin, dIntBin, okR, callG, row9, frz9, frzOf_def, frz_nil, Bool.not_true, pureB, leaf, leafN, List.all_cons, List.all_nil, List.nil_append, List.append_nil, List.length_nil, dun, Bool.and_false, gt_iff_lt, dStrBin, len22, len24, len26, cv922, stepPtr, Option.some.injEq]
    | (refine drW_intro (by kernel_rfl) ?_)
    | (refine gw_intro (fun h => ?_) (fun h => ?_) <;> (try simp only [beq_true, beq_false, Bool.not_eq_eq_eq_not, Bool.not_true, Bool.not_false, Bool.not_not, decide_eq_true_eq, decide_eq_false_iff_not, ge_iff_le, gt_iff_lt] at h)))
  refine loopH (fun st => ∃ i : Nat, i ≤ R.length ∧ st.slot 68 = .list (R.map Ru.d) ∧ st.slot 69 = .int .i64 R.length ∧ st.slot 70 = .int .i64 i ∧ st.slot 12 = .list (S.map Ru.d) ∧ st.slot 10 = .list (L.map Ru.d) ∧ st.slot 7 = Tks P) (fun st => R.length - slotI st 70) ?_ ?_
  · refine ⟨0, Nat.zero_le _, ?_, ?_, ?_, ?_, ?_, ?_⟩
    all_goals simp only [*, put_slot, dem_slot, ↓reduceIte, Nat.reduceEqDiff]
    all_goals rfl
  · rintro st K ⟨i, hi, g68, g69, g70, g12, g10, g7⟩ hn hx hr
    by_cases h : i < R.length
    · have g1 : (i : Int) < R.length := by omega
      have hLR : L.length ≤ 60 ∧ R.length ≤ 60 := HLa
      have hSl : S.length = L.length + R.length := HN
      have hPl : P.length = M + 1 := HM
      have hPm : P.length ≤ 1000000 := HM2
      have hw := wrapS i (by omega)
      obtain ⟨at_, nm, fr, to, o, e, fr', to', o', e', hs, d, q1, q2, q3, q4, q5, q6⟩ := (show ∀ i, i < R.length → _ from HV) i h
      have w1 : IntKind.i64.wrap ((L.length : Int) + (i : Int)) = ((L.length + i : Nat) : Int) := by rw [wrap64 _ (by omega) (by omega)]; omega
      have w2 : ((L.length + i : Nat) : Int) < (S.length : Int) := by omega
      have w3 : IntKind.i64.wrap ((fr : Int) + (P.length : Int)) = ((fr + P.length : Nat) : Int) := by rw [wrap64 _ (by omega) (by omega)]; omega
      have w4 : IntKind.i64.wrap (((fr + P.length : Nat) : Int) - 1) = (fr' : Int) := by rw [wrap64 _ (by omega) (by omega)]; omega
      have t1 : (at_ != at_) = false := by simp
      have t2 : (nm != nm) = false := by simp
      have t3 : ((fr' : Int) != (fr' : Int)) = false := by simp
      have t4 : (d != d) = false := by simp
      clear hx hr hLR hSl hPl hPm q3 q4
      generalize L.length + i = j at *
      generalize fr + P.length = m at *
      repeat' (first
    | simp only [*, go_nil, go_seq, go_cond, go_block, go_blk, go_skip, go_region, go_ops_nil, go_ops, okG_some, okB_some, gwD_bool, cwD_bool, gw_true, gw_false, guardG, opG, isPtr, inB, sval, stake, eats, eaters, get, cval, cval1, croom, St.taken, put_slot, put_room, put_box, put_ctr, put_none, dem_none, dem_slot, dem_box, dem_ctr, dem_room, setBox_slot, setBox_room, setBox_ctr, setBox_box, ↓reduceIte, Nat.reduceEqDiff, Nat.reduceLT, decide_true, List.filterMap_cons, List.filterMap_nil, Option.bind_some, Option.map_some, List.getElem?_cons_zero, List.getElem?_cons_succ, List.contains_cons, List.contains_nil, List.map_cons, List.map_nil, beq_self_eq_true, Bool.or_false, Bool.and_true, Nat.reduceBEq, Bool.false_eq_true, dbin, dIntBin, okR, callG, row9, frz9, frzOf_def, frz_nil, Bool.not_true, pureB, leaf, leafN, List.all_cons, List.all_nil, List.nil_append, List.append_nil, List.length_nil, List.length_cons, List.take_zero, List.drop_zero, List.drop_succ_cons, dcells, Nat.zero_add, Nat.reduceAdd, stepBox, Bool.and_false, Int.natCast_nonneg, Int.toNat_natCast, and_self, Nat.add_zero, dStrBin, ty4, dp3, dp4, dp9, len24, ty32, dp32, fp32_0, fp32_1, fp32_2, fp32_5, fp32_6, zr32, ia26, len26, Nat.le_refl, stepPtr]
    | (refine drW_intro (by kernel_rfl) ?_)
    | (refine gw_intro (fun h => ?_) (fun h => ?_) <;> (try simp only [beq_true, beq_false, Bool.not_eq_eq_eq_not, Bool.not_true, Bool.not_false, Bool.not_not, decide_eq_true_eq, decide_eq_false_iff_not, ge_iff_le, gt_iff_lt] at h)))
      refine hn _ ⟨i + 1, h, ?_, ?_, ?_, ?_, ?_, ?_⟩ ?_
      · simp only [*, put_slot, dem_slot, setBox_slot, ↓reduceIte, Nat.reduceEqDiff]
      · simp only [*, put_slot, dem_slot, setBox_slot, ↓reduceIte, Nat.reduceEqDiff]
      · simp only [*, put_slot, ↓reduceIte]
      · simp only [*, put_slot, dem_slot, setBox_slot, ↓reduceIte, Nat.reduceEqDiff]
      · simp only [*, put_slot, dem_slot, setBox_slot, ↓reduceIte, Nat.reduceEqDiff]
      · simp only [*, put_slot, dem_slot, setBox_slot, ↓reduceIte, Nat.reduceEqDiff]
      · simp only [slotI, *, put_slot, ↓reduceIte, Int.toNat_natCast]
        omega
    · have g1 : ¬ (i : Int) < R.length := by omega
      clear hn hr HV
      repeat' (first
    | simp only [*, go_nil, go_seq, go_cond, go_exit, go_xcode, go_region, go_ops_nil, go_ops, okG_some, cwD_bool, gw_false, guardG, opG, inB, sval, stake, eats, eaters, get, put_slot, dem_none, ↓reduceIte, Nat.reduceLT, decide_true, decide_false, List.filterMap_cons, List.filterMap_nil, Option.map_some, List.contains_cons, List.contains_nil, Bool.or_false, Bool.false_eq_true, dbin, dIntBin, row9, frz9, frzOf_def, frz_nil]
    | (refine drW_intro (by kernel_rfl) ?_)
    | (refine gw_intro (fun h => ?_) (fun h => ?_) <;> (try simp only [beq_true, beq_false, Bool.not_eq_eq_eq_not, Bool.not_true, Bool.not_false, Bool.not_not, decide_eq_true_eq, decide_eq_false_iff_not, ge_iff_le, gt_iff_lt] at h)))
      refine hx _ _ ?_
      repeat' (first
    | simp only [*, go_seq, go_retc, go_xblk, go_region, go_ops_nil, go_ops, okG_some, guardG, opG, inB, sval, stake, eats, eaters, get, cval, cval1, croom, put_slot, put_room, put_box, dem_none, endQ, endR, endV, rvars, rvar, room1, ↓reduceIte, Nat.reduceLT, decide_true, List.filterMap_cons, List.filterMap_nil, List.contains_cons, List.contains_nil, List.map_nil, Bool.or_false, Bool.false_eq_true, row9, frz9, frzOf_def, frz_nil, pureB, leaf, leafN, List.take_nil, List.range_zero, and_self]
    | (refine drW_intro (by kernel_rfl) ?_)
    | (refine gw_intro (fun h => ?_) (fun h => ?_) <;> (try simp only [beq_true, beq_false, Bool.not_eq_eq_eq_not, Bool.not_true, Bool.not_false, Bool.not_not, decide_eq_true_eq, decide_eq_false_iff_not, ge_iff_le, gt_iff_lt] at h)))
end Go.Av
/- Chapter 19: the law on joined declarations hands back true. -/
set_option linter.unusedSimpArgs false
set_option linter.unusedVariables false
set_option linter.unusedSectionVars false
set_option maxRecDepth 100000
namespace Go.Av
open Go.Proofs Go.Proofs.Ytaldmffahmomoaa Go.RowKit
theorem declsT (ns : List Nat) (hT : TL (TS (frs6 ns))) : ∃ r, callL Try.prog ext9 15 [Tks (TS (frs6 ns)), .int .i64 0, .int .i64 (TS (frs6 ns)).length] [] = some (.list ((des6 0 ns).map De.d), [r], []) := by
  obtain ⟨r, h⟩ := decls_L hT 0 ((TS (frs6 ns)).length : Nat)
  rw [cut_TS _ (chain_frs6 ns), decls_all] at h
  exact ⟨r, h⟩
theorem de6_len : ∀ n, (de6 n).length ≤ 1 := case9 (by decide) (by decide) (by decide) (by decide) (by decide) (by decide) (by decide) (by decide) fun _ => by show ([] : List De).length ≤ 1; decide
theorem des6_len : ∀ (ns : List Nat) (p : Nat), (des6 p ns).length ≤ ns.length
  | [], _ => Nat.le_refl _
  | n :: ns, p => by
    have h1 := de6_len n
    have h2 := des6_len ns (p + (fr6 n).length)
    rw [des6, List.length_append, List.length_map, List.length_cons]
    omega
theorem des6_same (ns : List Nat) (p : Nat) : (des6 p ns).length = (des6 0 ns).length := by
  rw [show des6 p ns = (des6 0 ns).map (De.sh p) from (des6_sh p ns 0).symm, List.length_map]
theorem de_moved {ns : List Nat} {L : List De} {M : Nat} {i : Nat} (hi : i < (L ++ des6 M ns).length) :
    ∃ (nm : List UInt8) (fr to fr' to' : Nat) (im : Bool) (d : Int), ((L ++ des6 M ns).map De.d).getD i .bad = .agg [.str nm, .int .i64 (fr' : Nat), .int .i64 (to' : Nat), .bool im] ∧
      (i < L.length → (L.map De.d).getD i .bad = .agg [.str nm, .int .i64 (fr : Nat), .int .i64 (to : Nat), .bool im]) ∧
      (¬ i < L.length → ((des6 0 ns).map De.d).getD (i - L.length) .bad = .agg [.str nm, .int .i64 (fr : Nat), .int .i64 (to : Nat), .bool im]) ∧
      IntKind.i64.wrap ((to : Int) - (fr : Int)) = d ∧ IntKind.i64.wrap ((to' : Int) - (fr' : Int)) = d := by
  by_cases h : i < L.length
  · have g1 : (L.map De.d).getD i .bad = (L[i]).d := by simp [List.getD, h]
    have g2 : ((L ++ des6 M ns).map De.d).getD i .bad = (L[i]).d := by
      rw [List.getD_eq_getElem?_getD, List.getElem?_map, List.getElem?_append_left h, List.getElem?_eq_getElem h]
      rfl
    rw [g1, g2]
    exact ⟨_, _, _, _, _, _, _, rfl, fun _ => rfl, fun hh => absurd h hh, rfl, rfl⟩
  · have e0 : des6 M ns = (des6 0 ns).map (De.sh M) := (des6_sh M ns 0).symm
    have hk : i - L.length < (des6 0 ns).length := by
      rw [List.length_append, des6_same] at hi
      omega
    have g1 : ((des6 0 ns).map De.d).getD (i - L.length) .bad = ((des6 0 ns)[i - L.length]).d := by simp [List.getD, hk]
    have g2 : ((L ++ des6 M ns).map De.d).getD i .bad = (((des6 0 ns)[i - L.length]).sh M).d := by
      rw [e0, List.getD_eq_getElem?_getD, List.getElem?_map, List.getElem?_append_right (by omega), List.getElem?_map, List.getElem?_eq_getElem hk]
      rfl
    rw [g1, g2]
    generalize (des6 0 ns)[i - L.length] = r
    refine ⟨_, _, _, _, _, _, _, rfl, fun hh => absurd hh h, fun _ => rfl, rfl, ?_⟩
    show IntKind.i64.wrap (((M + r.to : Nat) : Int) - ((M + r.fr : Nat) : Int)) = IntKind.i64.wrap ((r.to : Int) - (r.fr : Int))
    congr 1
    omega
set_option maxHeartbeats 8000000 in
theorem law6_L (a b : List Int) (ha : BytesOK a) (hb : BytesOK b) : callL Try.prog ext9 6 [.list (a.map (D.int .u8)), .list (b.map (D.int .u8))] [] = some (.bool true, [.no], []) := by
  have lA := bLen a
  have lB := bLen b
  have h8 := sp8_L
  refine callK (m := 111) (res := [4]) (rs := [.tmp 4]) rfl Try.func6 rfl rfl rfl rfl rfl ?_
  by_cases hla : (a.length : Int) > 60
  · clear ha hb
    repeat' (first
    | simp only [*, go_seq, go_cond, go_skip, go_retc, go_region, go_ops_nil, go_ops, okG_some, gwD_bool, cwD_bool, gw_true, gw_false, guardG, opG, isPtr, inB, sval, stake, eats, eaters, get, cval, cval1, croom, St.taken, put_slot, put_room, put_box, dem_none, setBox_slot, setBox_room, entry_slot, entry_room, entry_box, endQ, endR, endV, rvars, rvar, room1, ↓reduceIte, Nat.reduceEqDiff, Nat.reduceLT, reduceCtorEq, decide_true, List.filterMap_cons, List.filterMap_nil, Option.bind_some, Option.map_some, List.getElem?_cons_zero, List.getElem?_cons_succ, List.getD_cons_zero, List.contains_cons, List.contains_nil, List.map_cons, List.map_nil, Bool.or_false, Nat.reduceBEq, Bool.false_eq_true, dbin, dIntBin, okR, callG, row9, frz9, frzOf_def, frz_nil, beq_false, Bool.not_true, pureB, leaf, leafN, List.all_nil, List.append_nil, List.take_nil, List.range_zero, List.length_nil, dun, List.getElem?_nil, Bool.and_false, and_self, gt_iff_lt, dStrBin, len22, stepPtr]
    | (refine drW_intro (by kernel_rfl) ?_)
    | (refine gw_intro (fun h => ?_) (fun h => ?_) <;> (try simp only [beq_true, beq_false, Bool.not_eq_eq_eq_not, Bool.not_true, Bool.not_false, Bool.not_not, decide_eq_true_eq, decide_eq_false_iff_not, ge_iff_le, gt_iff_lt] at h)))
  by_cases hlb : (b.length : Int) > 60
  · clear ha hb
    repeat' (first
    | simp only [*, go_seq, go_cond, go_skip, go_retc, go_region, go_ops_nil, go_ops, okG_some, gwD_bool, cwD_bool, gw_true, gw_false, guardG, opG, isPtr, inB, sval, stake, eats, eaters, get, cval, cval1, croom, St.taken, put_slot, put_room, put_box, dem_none, setBox_slot, setBox_room, entry_slot, entry_room, entry_box, endQ, endR, endV, rvars, rvar, room1, ↓reduceIte, Nat.reduceEqDiff, Nat.reduceLT, reduceCtorEq, decide_true, decide_false, List.filterMap_cons, List.filterMap_nil, Option.bind_some, Option.map_some, List.getElem?_cons_zero, List.getElem?_cons_succ, List.getD_cons_zero, List.getD_cons_succ, List.contains_cons, List.contains_nil, List.map_cons, List.map_nil, beq_self_eq_true, Bool.or_false, Nat.reduceBEq, Bool.false_eq_true, dbin, dIntBin, okR, callG, row9, frz9, frzOf_def, frz_nil, Bool.not_true, pureB, leaf, leafN, List.all_nil, List.append_nil, List.take_nil, List.range_zero, List.length_nil, dun, List.getElem?_nil, Bool.and_false, and_self, gt_iff_lt, dStrBin, len22, stepPtr]
    | (refine drW_intro (by kernel_rfl) ?_)
    | (refine gw_intro (fun h => ?_) (fun h => ?_) <;> (try simp only [beq_true, beq_false, Bool.not_eq_eq_eq_not, Bool.not_true, Bool.not_false, Bool.not_not, decide_eq_true_eq, decide_eq_false_iff_not, ge_iff_le, gt_iff_lt] at h)))
  have hA := decls_L6 a ha (by omega)
  have hB := decls_L6 b hb (by omega)
  have xl := tx6_len a
  have yl := tx6_len b
  have eAB : tx6 a ++ [59] ++ tx6 b = (ix8 a ++ (8 :: ix8 b)).flatMap by6 := by
    unfold tx6
    rw [List.flatMap_append, List.flatMap_cons, List.append_assoc]
    rfl
  obtain ⟨hP, tP⟩ := readS (x := tx6 a) (ts := TS (frs6 (ix8 a))) (by omega) (read_frs6 (ix8 a))
  obtain ⟨hQ, tQ⟩ := readS (x := tx6 b) (ts := TS (frs6 (ix8 b))) (by omega) (read_frs6 (ix8 b))
  obtain ⟨hN, tN⟩ := readS (x := tx6 a ++ [59] ++ tx6 b) (ts := TS (frs6 (ix8 a ++ (8 :: ix8 b)))) (by rw [List.length_append, List.length_append, List.length_singleton]; omega) (by rw [eAB]; exact read_frs6 (ix8 a ++ (8 :: ix8 b)))
  have hcat1 : (tx6 a).length + 1 ≤ 1099511627776 := by omega
  have hcat2 : (tx6 a ++ [59]).length + (tx6 b).length ≤ 1099511627776 := by rw [List.length_append, List.length_singleton]; omega
  obtain ⟨r1, hR1⟩ := declsT _ tP
  obtain ⟨r2, hR2⟩ := declsT _ tQ
  obtain ⟨r3, hR3⟩ := declsT _ tN
  have e3 : des6 0 (ix8 a ++ (8 :: ix8 b)) = des6 0 (ix8 a) ++ des6 ((frs6 (ix8 a)).length + 1) (ix8 b) := by
    rw [des6_append, Nat.zero_add]
    rfl
  rw [e3] at hR3
  have n1 := des6_len (ix8 a) 0
  have n2 := des6_same (ix8 b) ((frs6 (ix8 a)).length + 1)
  have n3 := des6_len (ix8 b) 0
  have n4 : (ix8 a).length = a.length := by simp [ix8]
  have n5 : (ix8 b).length = b.length := by simp [ix8]
  have hmv : ∀ i, i < (des6 0 (ix8 a) ++ des6 ((frs6 (ix8 a)).length + 1) (ix8 b)).length → _ := fun i hi => de_moved hi
  have l1 := TkLen (TS (frs6 (ix8 a)))
  have l2 := TkLen (TS (frs6 (ix8 b)))
  have l3 := TkLen (TS (frs6 (ix8 a ++ (8 :: ix8 b))))
  generalize TS (frs6 (ix8 a)) = P at *
  generalize TS (frs6 (ix8 b)) = Q at *
  generalize TS (frs6 (ix8 a ++ (8 :: ix8 b))) = N at *
  generalize des6 0 (ix8 a) = L at *
  have hnn : (L ++ des6 ((frs6 (ix8 a)).length + 1) (ix8 b)).length = L.length + (des6 0 (ix8 b)).length := by rw [List.length_append, n2]
  generalize des6 0 (ix8 b) = R at *
  generalize L ++ des6 ((frs6 (ix8 a)).length + 1) (ix8 b) = S at *
  have k1 := lenDe L
  have k2 := lenDe R
  have k3 := lenDe S
  have hw0 : IntKind.i64.wrap ((L.length : Int) + (R.length : Int)) = (S.length : Int) := by rw [wrap64 _ (by omega) (by omega)]; omega
  have hq0 : ((S.length : Int) != (S.length : Int)) = false := by simp
  have HN := Hd.mk hnn
  have HLa : Hd (L.length ≤ 60 ∧ R.length ≤ 60) := ⟨by omega, by omega⟩
  have HV := Hd.mk hmv
  clear ha hb xl yl eAB tP tQ tN e3 n1 n2 n3 n4 n5 hmv hnn
  repeat' (first
    | simp only [*, go_seq, go_cond, go_block, go_skip, go_loop, go_region, go_ops_nil, go_ops, okG_some, gwD_bool, cwD_bool, gw_true, gw_false, guardG, opG, isPtr, inB, sval, stake, eats, eaters, get, cval, cval1, croom, St.taken, put_slot, put_room, dem_none, dem_slot, dem_room, setBox_slot, setBox_room, entry_slot, entry_room, ↓reduceIte, Nat.reduceEqDiff, Nat.reduceLT, reduceCtorEq, decide_true, decide_false, List.filterMap_cons, List.filterMap_nil, Option.bind_some, Option.map_some, List.getElem?_cons_zero, List.getElem?_cons_succ, List.getD_cons_zero, List.getD_cons_succ, List.contains_cons, List.contains_nil, List.map_cons, List.map_nil, beq_self_eq_true, beq_iff_eq, Bool.or_false, Bool.and_true, Bool.true_and, Nat.reduceBEq, Bool.false_eq_true, dbin, dIntBin, okR, callG, row9, frz9, frzOf_def, frz_nil, Bool.not_true, pureB, leaf, leafN, List.all_cons, List.all_nil, List.nil_append, List.append_nil, List.length_nil, List.length_cons, dun, Nat.zero_add, Bool.and_false, gt_iff_lt, dStrBin, len22, len24, len35, cv922, stepPtr, Option.some.injEq]
    | (refine drW_intro (by kernel_rfl) ?_)
    | (refine gw_intro (fun h => ?_) (fun h => ?_) <;> (try simp only [beq_true, beq_false, Bool.not_eq_eq_eq_not, Bool.not_true, Bool.not_false, Bool.not_not, decide_eq_true_eq, decide_eq_false_iff_not, ge_iff_le, gt_iff_lt] at h)))
  refine loopH (fun st => ∃ i : Nat, i ≤ S.length ∧ st.slot 62 = .list (S.map De.d) ∧ st.slot 63 = .int .i64 S.length ∧ st.slot 64 = .int .i64 i ∧ st.slot 10 = .list (L.map De.d) ∧ st.slot 11 = .list (R.map De.d)) (fun st => S.length - slotI st 64) ?_ ?_
  · refine ⟨0, Nat.zero_le _, ?_, ?_, ?_, ?_, ?_⟩
    all_goals simp only [*, put_slot, dem_slot, ↓reduceIte, Nat.reduceEqDiff]
    all_goals rfl
  · rintro st K ⟨i, hi, g62, g63, g64, g10, g11⟩ hn hx hr
    by_cases h : i < S.length
    · have g1 : (i : Int) < S.length := by omega
      have hLR : L.length ≤ 60 ∧ R.length ≤ 60 := HLa
      have hSl : S.length = L.length + R.length := HN
      have hw := wrapS i (by omega)
      obtain ⟨nm, fr, to, fr', to', im, d, q1, q2, q3, q5, q6⟩ := (show ∀ i, i < S.length → _ from HV) i h
      have t1 : (im != im) = false := by simp
      have t2 : (nm != nm) = false := by simp
      have t4 : (d != d) = false := by simp
      by_cases hc : i < L.length
      · have q2' := q2 hc
        have c1 : (i : Int) < L.length := by omega
        clear hx hr hLR hSl q2 q3 hc HV
        repeat' (first
    | simp only [*, go_nil, go_seq, go_cond, go_block, go_blk, go_skip, go_region, go_ops_nil, go_ops, okG_some, okB_some, gwD_bool, cwD_bool, gw_true, gw_false, guardG, opG, isPtr, inB, sval, stake, eats, eaters, get, cval, cval1, St.taken, put_slot, put_room, put_box, put_ctr, put_none, dem_none, dem_slot, dem_box, dem_ctr, setBox_slot, setBox_room, setBox_ctr, setBox_box, ↓reduceIte, Nat.reduceEqDiff, Nat.reduceLT, decide_true, List.filterMap_cons, List.filterMap_nil, Option.bind_some, Option.map_some, List.getElem?_cons_zero, List.getElem?_cons_succ, List.contains_cons, List.contains_nil, List.map_cons, List.map_nil, beq_self_eq_true, Bool.or_false, Bool.and_true, Nat.reduceBEq, Bool.false_eq_true, dbin, dIntBin, row9, frz9, frzOf_def, frz_nil, Bool.not_true, pureB, leaf, leafN, List.all_cons, List.all_nil, List.nil_append, List.append_nil, List.length_nil, List.length_cons, List.take_zero, List.drop_zero, List.drop_succ_cons, dcells, Nat.zero_add, Nat.reduceAdd, stepBox, Bool.and_false, Int.natCast_nonneg, Int.toNat_natCast, and_self, Nat.add_zero, dStrBin, ty4, dp3, dp4, dp9, ty41, dp41, fp41_0, fp41_1, fp41_2, fp41_3, zr41, ia35, len35, bd41_, Nat.le_refl]
    | (refine drW_intro (by kernel_rfl) ?_)
    | (refine gw_intro (fun h => ?_) (fun h => ?_) <;> (try simp only [beq_true, beq_false, Bool.not_eq_eq_eq_not, Bool.not_true, Bool.not_false, Bool.not_not, decide_eq_true_eq, decide_eq_false_iff_not, ge_iff_le, gt_iff_lt] at h)))
        refine hn _ ⟨i + 1, h, ?_, ?_, ?_, ?_, ?_⟩ ?_
        · simp only [*, put_slot, dem_slot, setBox_slot, ↓reduceIte, Nat.reduceEqDiff]
        · simp only [*, put_slot, dem_slot, setBox_slot, ↓reduceIte, Nat.reduceEqDiff]
        · simp only [*, put_slot, ↓reduceIte]
        · simp only [*, put_slot, dem_slot, setBox_slot, ↓reduceIte, Nat.reduceEqDiff]
        · simp only [*, put_slot, dem_slot, setBox_slot, ↓reduceIte, Nat.reduceEqDiff]
        · simp only [slotI, *, put_slot, ↓reduceIte, Int.toNat_natCast]
          omega
      · have q3' := q3 hc
        have c1 : ¬ (i : Int) < L.length := by omega
        have w1 : IntKind.i64.wrap ((i : Int) - (L.length : Int)) = ((i - L.length : Nat) : Int) := by rw [wrap64 _ (by omega) (by omega)]; omega
        have w2 : ((i - L.length : Nat) : Int) < (R.length : Int) := by omega
        clear hx hr hLR hSl q2 q3 hc HV
        generalize i - L.length = j at *
        repeat' (first
    | simp only [*, go_nil, go_seq, go_cond, go_block, go_blk, go_skip, go_region, go_ops_nil, go_ops, okG_some, okB_some, gwD_bool, cwD_bool, gw_true, gw_false, guardG, opG, isPtr, inB, sval, stake, eats, eaters, get, cval, cval1, St.taken, put_slot, put_room, put_box, put_ctr, put_none, dem_none, dem_slot, dem_box, dem_ctr, setBox_slot, setBox_room, setBox_ctr, setBox_box, ↓reduceIte, Nat.reduceEqDiff, Nat.reduceLT, decide_true, decide_false, List.filterMap_cons, List.filterMap_nil, Option.bind_some, Option.map_some, List.getElem?_cons_zero, List.getElem?_cons_succ, List.contains_cons, List.contains_nil, List.map_cons, List.map_nil, beq_self_eq_true, Bool.or_false, Bool.and_true, Nat.reduceBEq, Bool.false_eq_true, dbin, dIntBin, row9, frz9, frzOf_def, frz_nil, Bool.not_true, pureB, leaf, leafN, List.all_cons, List.all_nil, List.nil_append, List.append_nil, List.length_nil, List.length_cons, List.take_zero, List.drop_zero, List.drop_succ_cons, dcells, Nat.zero_add, Nat.reduceAdd, stepBox, Bool.and_false, Int.natCast_nonneg, Int.toNat_natCast, and_self, Nat.add_zero, dStrBin, ty4, dp3, dp4, dp9, ty41, dp41, fp41_0, fp41_1, fp41_2, fp41_3, zr41, ia35, len35, bd41_, Nat.le_refl]
    | (refine drW_intro (by kernel_rfl) ?_)
    | (refine gw_intro (fun h => ?_) (fun h => ?_) <;> (try simp only [beq_true, beq_false, Bool.not_eq_eq_eq_not, Bool.not_true, Bool.not_false, Bool.not_not, decide_eq_true_eq, decide_eq_false_iff_not, ge_iff_le, gt_iff_lt] at h)))
        refine hn _ ⟨i + 1, h, ?_, ?_, ?_, ?_, ?_⟩ ?_
        · simp only [*, put_slot, dem_slot, setBox_slot, ↓reduceIte, Nat.reduceEqDiff]
        · simp only [*, put_slot, dem_slot, setBox_slot, ↓reduceIte, Nat.reduceEqDiff]
        · simp only [*, put_slot, ↓reduceIte]
        · simp only [*, put_slot, dem_slot, setBox_slot, ↓reduceIte, Nat.reduceEqDiff]
        · simp only [*, put_slot, dem_slot, setBox_slot, ↓reduceIte, Nat.reduceEqDiff]
        · simp only [slotI, *, put_slot, ↓reduceIte, Int.toNat_natCast]
          omega
    · have g1 : ¬ (i : Int) < S.length := by omega
      clear hn hr HV
      repeat' (first
    | simp only [*, go_nil, go_seq, go_cond, go_exit, go_xcode, go_region, go_ops_nil, go_ops, okG_some, cwD_bool, gw_false, guardG, opG, inB, sval, stake, eats, eaters, get, put_slot, dem_none, ↓reduceIte, Nat.reduceLT, decide_true, decide_false, List.filterMap_cons, List.filterMap_nil, Option.map_some, List.contains_cons, List.contains_nil, Bool.or_false, Bool.false_eq_true, dbin, dIntBin, row9, frz9, frzOf_def, frz_nil]
    | (refine drW_intro (by kernel_rfl) ?_)
    | (refine gw_intro (fun h => ?_) (fun h => ?_) <;> (try simp only [beq_true, beq_false, Bool.not_eq_eq_eq_not, Bool.not_true, Bool.not_false, Bool.not_not, decide_eq_true_eq, decide_eq_false_iff_not, ge_iff_le, gt_iff_lt] at h)))
      refine hx _ _ ?_
      repeat' (first
    | simp only [*, go_seq, go_retc, go_xblk, go_region, go_ops_nil, go_ops, okG_some, guardG, opG, inB, sval, stake, eats, eaters, get, cval, cval1, croom, put_slot, put_room, put_box, dem_none, endQ, endR, endV, rvars, rvar, room1, ↓reduceIte, Nat.reduceLT, decide_true, List.filterMap_cons, List.filterMap_nil, List.contains_cons, List.contains_nil, List.map_nil, Bool.or_false, Bool.false_eq_true, row9, frz9, frzOf_def, frz_nil, pureB, leaf, leafN, List.take_nil, List.range_zero, and_self]
    | (refine drW_intro (by kernel_rfl) ?_)
    | (refine gw_intro (fun h => ?_) (fun h => ?_) <;> (try simp only [beq_true, beq_false, Bool.not_eq_eq_eq_not, Bool.not_true, Bool.not_false, Bool.not_not, decide_eq_true_eq, decide_eq_false_iff_not, ge_iff_le, gt_iff_lt] at h)))
end Go.Av
