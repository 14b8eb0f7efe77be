/- The evaluator, in one text: over any program; no conditions but those that each law names. -/
import Derived.Test.YtaldmffahmomoaaAvte
import Derived.Test.YtaldmffahmomoaaAvtd
set_option linter.unusedSimpArgs false
set_option linter.unusedVariables false
set_option linter.unusedSectionVars false
/- Chapter 19: the document's component values, by recursion. -/
set_option linter.unusedSimpArgs false
set_option linter.unusedVariables false
set_option linter.unusedSectionVars false
set_option maxRecDepth 100000
namespace Go.Av
open Go.Proofs Go.Proofs.Ytaldmffahmomoaa Go.RowKit
theorem closer_L (k : Int) : callL Try.prog ext9 37 [.int .i64 k] [] = some (.int .i64 (closeK k), [.no], []) := by
  refine callK (m := 13) (res := [2]) (rs := [.tmp 2]) rfl Try.func37 rfl rfl rfl rfl rfl ?_
  unfold closeK
  repeat' (first
    | simp only [*, go_seq, go_cond, go_skip, go_retc, go_region, go_ops_nil, go_ops, okG_some, gwD_bool, cwD_bool, gw_true, gw_false, guardG, opG, inB, sval, stake, eats, eaters, get, cval, cval1, croom, St.taken, put_slot, put_room, put_box, dem_none, entry_slot, entry_room, entry_box, endQ, endR, endV, rvars, rvar, room1, ↓reduceIte, Nat.reduceEqDiff, Nat.reduceLT, reduceCtorEq, decide_true, List.filterMap_cons, List.filterMap_nil, Option.bind_some, Option.map_some, List.getElem?_cons_zero, List.getElem?_cons_succ, List.getD_cons_zero, List.contains_cons, List.contains_nil, List.map_nil, beq_self_eq_true, Bool.or_false, Nat.reduceBEq, Bool.false_eq_true, dbin, dIntBin, row9, frz9, frzOf_def, frz_nil, beq_false, Bool.not_true, pureB, leaf, leafN, List.take_nil, List.range_zero, List.length_nil, List.getElem?_nil, Bool.and_false, and_true, dStrBin]
    | (refine drW_intro (by kernel_rfl) ?_)
    | (refine gw_intro (fun h => ?_) (fun h => ?_) <;> (try simp only [Bool.not_eq_eq_eq_not, Bool.not_true, Bool.not_false] at h)))
  all_goals simp_all
set_option maxHeartbeats 8000000 in
theorem valueAt_L (ts : List Tk) (hl : ts.length ≤ 1000000) (fr to : Int) : callL Try.prog ext9 22 [Tks ts, .int .i64 fr, .int .i64 to] [] =
    some (.int .i64 (if (cutF ts fr to).2 ≤ (cutF ts fr to).1 then fr else ((behindF (kd ts) (cutF ts fr to).2 (cutF ts fr to).1).1 : Nat)), [.no], []) := by
  have hP := part_L ts hl fr to
  have hle := cutF_le ts fr to
  generalize (cutF ts fr to).1 = a at *
  generalize (cutF ts fr to).2 = e at *
  have hE := ends_L ts a e
  refine callK (m := 21) (res := [6]) (rs := [.tmp 6]) rfl Try.func22 rfl rfl rfl rfl rfl ?_
  by_cases h : e ≤ a
  · rw [decide_eq_true h] at hE
    rw [if_pos h]
    repeat' (first
    | simp only [*, go_seq, go_cond, go_retc, go_region, go_ops_nil, go_ops, okG_some, okB_some, cwD_bool, gw_true, guardG, opG, isPtr, inB, sval, stake, eats, eaters, get, cval, cval1, croom, St.taken, put_slot, put_room, put_box, put_ctr, dem_none, dem_slot, dem_box, dem_room, setBox_slot, setBox_room, setBox_box, entry_slot, entry_room, entry_box, entry_ctr, endQ, endR, endV, rvars, rvar, room1, ↓reduceIte, Nat.reduceEqDiff, Nat.reduceLT, reduceCtorEq, decide_true, List.filterMap_cons, List.filterMap_nil, List.getD_cons_zero, List.getD_cons_succ, List.contains_cons, List.contains_nil, List.map_cons, List.map_nil, beq_self_eq_true, Bool.or_false, Bool.and_true, Nat.reduceBEq, Bool.false_eq_true, okR, callG, row9, frz9, frzOf_def, frz_nil, pureB, leaf, leafN, List.all_cons, List.all_nil, List.nil_append, List.append_nil, List.take_nil, List.range_zero, List.length_nil, List.getElem?_nil, Nat.reduceAdd, Bool.and_false, and_self, pid0, stepPtr]
    | (refine drW_intro (by kernel_rfl) ?_)
    | (refine gw_intro (fun h => ?_) (fun h => ?_) <;> (try simp only [beq_true, beq_false, Bool.not_eq_eq_eq_not, Bool.not_true, Bool.not_false, Bool.not_not, decide_eq_true_eq, decide_eq_false_iff_not, ge_iff_le, gt_iff_lt] at h)))
  · rw [decide_eq_false h] at hE
    rw [if_neg h]
    have hV := value_L (ts := ts) (a := a) (e := e) ⟨hl, hle⟩ (by omega)
    repeat' (first
    | simp only [*, go_seq, go_cond, go_skip, go_retc, go_region, go_ops_nil, go_ops, okG_some, okB_some, cwD_bool, gw_false, guardG, opG, isPtr, inB, sval, stake, eats, eaters, get, cval, cval1, croom, St.taken, put_slot, put_room, put_box, put_ctr, dem_none, dem_box, setBox_slot, setBox_room, setBox_box, entry_slot, entry_box, entry_ctr, endQ, endR, endV, rvars, rvar, room1, ↓reduceIte, Nat.reduceEqDiff, Nat.reduceLT, reduceCtorEq, decide_true, List.filterMap_cons, List.filterMap_nil, Option.map_some, List.getElem?_cons_zero, List.getElem?_cons_succ, List.getD_cons_zero, List.getD_cons_succ, List.contains_cons, List.contains_nil, List.map_cons, List.map_nil, beq_self_eq_true, Bool.or_false, Bool.and_true, Nat.reduceBEq, Bool.false_eq_true, okR, callG, row9, frz9, frzOf_def, frz_nil, pureB, leaf, leafN, List.all_cons, List.all_nil, List.nil_append, List.append_nil, List.take_nil, List.range_zero, List.length_nil, List.getElem?_nil, Nat.zero_add, Nat.reduceAdd, Bool.and_false, and_self, dp3, fp51_1, pid0, stepPtr]
    | (refine drW_intro (by kernel_rfl) ?_)
    | (refine gw_intro (fun h => ?_) (fun h => ?_) <;> (try simp only [beq_true, beq_false, Bool.not_eq_eq_eq_not, Bool.not_true, Bool.not_false, Bool.not_not, decide_eq_true_eq, decide_eq_false_iff_not, ge_iff_le, gt_iff_lt] at h)))
set_option maxHeartbeats 8000000 in
theorem behind_L (ts : List Tk) (hl : ts.length ≤ 1000000) (e : Nat) (he : e ≤ ts.length) : ∀ (n a : Nat), e - a ≤ n → a < e → callL Try.prog ext9 21 [Tks ts, .int .i64 (a : Nat), .int .i64 (e : Nat)] [] =
    some (.tuple [.int .i64 ((behindF (kd ts) e a).1 : Nat), .int .i64 ((behindF (kd ts) e a).2 : Nat)], [.no, .no], []) := by
  intro n
  induction n with
  | zero => intro a h1 h2; omega
  | succ n ih =>
    intro a h1 h2
    have lN := TkLen ts
    have hC := closer_L (kd ts a)
    have hg := tk_at ts a (by omega)
    have g2 : (a : Int) < ts.length := by omega
    have hw := wrapS a (by omega)
    have ih' := Hd.mk ih
    clear ih
    refine callK (m := 50) (res := [6, 7]) (rs := [.tmp 6, .tmp 7]) rfl Try.func21 rfl rfl rfl rfl rfl ?_
    unfold behindF
    by_cases h0 : closeK (kd ts a) = 0
    · rw [if_pos h0]
      rw [h0] at hC
      repeat' (first
    | simp only [*, go_seq, go_cond, go_retc, go_region, go_ops_nil, go_ops, okG_some, cwD_bool, gw_true, guardG, opG, isPtr, inB, sval, stake, eats, eaters, get, cval, cval1, croom, St.taken, put_slot, put_room, put_box, dem_none, dem_slot, dem_box, dem_room, entry_slot, entry_box, endQ, endR, endV, rvars, rvar, room1, ↓reduceIte, Nat.reduceEqDiff, Nat.reduceLT, reduceCtorEq, decide_true, List.filterMap_cons, List.filterMap_nil, Option.map_some, List.getElem?_cons_zero, List.getD_cons_zero, List.getD_cons_succ, List.contains_cons, List.contains_nil, List.map_cons, List.map_nil, beq_self_eq_true, Bool.or_false, Bool.or_true, Bool.and_true, Nat.reduceBEq, Bool.false_eq_true, dbin, dIntBin, okR, callG, row9, frz9, frzOf_def, frz_nil, pureB, leaf, leafN, List.all_cons, List.all_nil, List.nil_append, List.append_nil, List.take_nil, List.range_zero, List.length_nil, List.length_cons, List.getElem?_nil, dcells, Nat.zero_add, Nat.reduceAdd, Bool.and_false, Int.natCast_nonneg, Int.toNat_natCast, and_self, Nat.add_zero, dp3, fa56_0, ia24]
    | (refine drW_intro (by kernel_rfl) ?_)
    | (refine gw_intro (fun h => ?_) (fun h => ?_) <;> (try simp only [beq_true, beq_false, Bool.not_eq_eq_eq_not, Bool.not_true, Bool.not_false, Bool.not_not, decide_eq_true_eq, decide_eq_false_iff_not, ge_iff_le, gt_iff_lt] at h)))
    · rw [if_neg h0]
      have b0 : (closeK (kd ts a) == 0) = false := beq_eq_false_iff_ne.2 h0
      have hcl : ∃ c, Hid (c = closeK (kd ts a)) := ⟨_, rfl⟩
      obtain ⟨c, hc⟩ := hcl
      rw [← hc.out] at hC b0 ⊢
      have hge := untilF_ge (ks := kd ts) (e := e) (fun k => k == c) (a + 1)
      obtain ⟨p, hp⟩ : ∃ p, Hid (untilF (kd ts) e (fun k => k == c) (a + 1) = p) := ⟨_, rfl⟩
      rw [hp.out] at hge ⊢
      clear h0 hc
      repeat' (first
    | simp only [*, go_seq, go_cond, go_block, go_skip, go_loop, go_region, go_ops_nil, go_ops, okG_some, cwD_bool, gw_false, guardG, opG, isPtr, inB, sval, stake, eats, eaters, get, cval, cval1, croom, St.taken, put_slot, put_room, dem_none, dem_slot, entry_slot, ↓reduceIte, Nat.reduceEqDiff, Nat.reduceLT, reduceCtorEq, decide_true, List.filterMap_cons, List.filterMap_nil, Option.map_some, List.getElem?_cons_zero, List.getD_cons_zero, List.getD_cons_succ, List.contains_cons, List.contains_nil, List.map_cons, List.map_nil, Bool.or_false, Bool.and_true, Nat.reduceBEq, Bool.false_eq_true, dbin, dIntBin, okR, callG, row9, frz9, frzOf_def, frz_nil, pureB, leaf, leafN, List.all_cons, List.all_nil, List.nil_append, List.append_nil, List.length_nil, List.length_cons, dcells, Nat.zero_add, Nat.reduceAdd, Bool.and_false, Int.natCast_nonneg, Int.toNat_natCast, and_self, Nat.add_zero, dp3, fa56_0, ia24]
    | (refine drW_intro (by kernel_rfl) ?_)
    | (refine gw_intro (fun h => ?_) (fun h => ?_) <;> (try simp only [beq_true, beq_false, Bool.not_eq_eq_eq_not, Bool.not_true, Bool.not_false, Bool.not_not, decide_eq_true_eq, decide_eq_false_iff_not, ge_iff_le, gt_iff_lt] at h)))
      refine loopH (fun st => ∃ (i : Nat) (r : List Room), Hd (a < i ∧ i ≤ e ∧ NR r) ∧ st.slot 0 = .list (ts.map Tk.d) ∧ st.slot 1 = .int .i64 i ∧ st.slot 2 = .int .i64 e ∧ st.slot 8 = .int .i64 c ∧ st.room 1 = r ∧ st.room 2 = [] ∧ Hd (untilF (kd ts) e (fun k => k == c) i = p))
        (fun st => e - slotI st 1) ?_ ?_
      · refine ⟨a + 1, [], Hd.mk ⟨Nat.lt_succ_self _, h2, .inl rfl⟩, ?_, ?_, ?_, ?_, ?_, ?_, hp⟩
        all_goals simp only [*, put_slot, put_room, dem_slot, dem_room, entry_slot, entry_room, ↓reduceIte, Nat.reduceEqDiff, reduceCtorEq, List.getD_cons_zero, List.getD_cons_succ]
      · clear hC hg g2 hw b0
        rintro st K ⟨i, r, hai, s0, s1, s2, s8, r1, r2, hinv⟩ hn hx hr
        obtain ⟨hai1, hai2, hnr⟩ := (show a < i ∧ i ≤ e ∧ NR r from hai)
        have hinv' : untilF (kd ts) e (fun k => k == c) i = p := hinv
        by_cases hie : i < e
        · have g1 : (i : Int) < e := by omega
          have g2 : (i : Int) < ts.length := by omega
          have hg := tk_at ts i (by omega)
          by_cases hk : kd ts i = c
          · have bk : (kd ts i != c) = false := by rw [hk]; simp
            rw [untilF_stop (stop := fun k => k == c) (.inr (by simp [hk]))] at hinv'
            have hw2 := wrapS i (by omega)
            clear hinv hk hai
            subst hinv'
            clear ih' hp hge
            repeat' (first
    | simp only [*, go_nil, go_seq, go_cond, go_exit, go_xcode, go_region, go_ops_nil, go_ops, okG_some, gwD_bool, cwD_bool, gw_true, gw_false, guardG, opG, inB, sval, stake, eats, eaters, get, croom, St.taken, put_slot, put_room, dem_none, ↓reduceIte, Nat.reduceEqDiff, Nat.reduceLT, reduceCtorEq, decide_true, List.filterMap_cons, List.filterMap_nil, Option.bind_some, Option.map_some, List.getElem?_cons_zero, List.getElem?_cons_succ, List.contains_cons, List.contains_nil, beq_self_eq_true, Bool.or_false, Bool.and_true, Nat.reduceBEq, Bool.false_eq_true, dbin, dIntBin, row9, frz9, frzOf_def, frz_nil, List.length_nil, List.length_cons, dcells, Nat.zero_add, Nat.reduceAdd, Int.natCast_nonneg, Int.toNat_natCast, and_self, Nat.add_zero, dStrBin, dp3, fa56_0, ia24]
    | (refine drW_intro (by kernel_rfl) ?_)
    | (refine gw_intro (fun h => ?_) (fun h => ?_) <;> (try simp only [beq_true, beq_false, Bool.not_eq_eq_eq_not, Bool.not_true, Bool.not_false, Bool.not_not, decide_eq_true_eq, decide_eq_false_iff_not, ge_iff_le, gt_iff_lt] at h)))
            refine hx _ _ ?_
            repeat' (first
    | simp only [*, go_seq, go_cond, go_retc, go_xblk, go_region, go_ops_nil, go_ops, okG_some, cwD_bool, gw_true, guardG, opG, inB, sval, stake, eats, eaters, get, cval, cval1, St.taken, put_slot, put_room, put_box, dem_none, dem_slot, dem_box, dem_room, endQ, endR, endV, rvars, rvar, room1, ↓reduceIte, Nat.reduceEqDiff, Nat.reduceLT, decide_true, List.filterMap_cons, List.filterMap_nil, Option.map_some, List.contains_cons, List.contains_nil, List.map_cons, List.map_nil, beq_self_eq_true, Bool.or_false, Bool.or_true, Nat.reduceBEq, Bool.false_eq_true, dbin, dIntBin, row9, frz9, frzOf_def, frz_nil, pureB, leaf, leafN, List.take_nil, List.range_zero, Bool.and_false, and_true]
    | (refine drW_intro (by kernel_rfl) ?_)
    | (refine gw_intro (fun h => ?_) (fun h => ?_) <;> (try simp only [beq_true, beq_false, Bool.not_eq_eq_eq_not, Bool.not_true, Bool.not_false, Bool.not_not, decide_eq_true_eq, decide_eq_false_iff_not, ge_iff_le, gt_iff_lt] at h)))
            rcases hnr with rfl | rfl <;> rfl
          · have bk : (kd ts i != c) = true := by simpa using hk
            have hB := (show ∀ (a : Nat), e - a ≤ n → a < e → _ from ih') i (by omega) hie
            have hpos := behindF_pos (ks := kd ts) hie
            have T := Hd.mk (show untilF (kd ts) e (fun k => k == c) (behindF (kd ts) e i).1 = p by rw [← untilF_step (stop := fun k => k == c) hie (by simpa using hk)]; exact hinv')
            generalize (behindF (kd ts) e i).1 = nx at *
            have G := Hd.mk (show a < nx ∧ nx ≤ e ∧ NR [.no] from ⟨by omega, by omega, .inr rfl⟩)
            clear hinv hinv' hk hai
            repeat' (first
    | simp only [*, go_nil, go_seq, go_cond, go_block, go_blk, go_skip, go_region, go_ops_nil, go_ops, okG_some, gwD_bool, cwD_bool, gw_true, guardG, opG, isPtr, inB, sval, stake, eats, eaters, get, croom, St.taken, put_slot, put_room, dem_none, dem_slot, dem_room1, ↓reduceIte, Nat.reduceEqDiff, Nat.reduceLT, reduceCtorEq, decide_true, List.filterMap_cons, List.filterMap_nil, Option.bind_some, Option.map_some, List.getElem?_cons_zero, List.getElem?_cons_succ, List.contains_cons, List.contains_nil, List.map_cons, List.map_nil, beq_self_eq_true, Bool.or_false, Bool.or_true, Bool.and_true, Nat.reduceBEq, Bool.false_eq_true, dbin, dIntBin, okR, callG, row9, frz9, frzOf_def, frz_nil, pureB, leaf, leafN, List.all_cons, List.all_nil, List.nil_append, List.append_nil, List.length_nil, List.length_cons, dcells, Nat.zero_add, Nat.reduceAdd, Bool.and_false, Int.natCast_nonneg, Int.toNat_natCast, and_self, Nat.add_zero, dStrBin, dp3, fa56_0, ia24]
    | (refine drW_intro (by kernel_rfl) ?_)
    | (refine gw_intro (fun h => ?_) (fun h => ?_) <;> (try simp only [beq_true, beq_false, Bool.not_eq_eq_eq_not, Bool.not_true, Bool.not_false, Bool.not_not, decide_eq_true_eq, decide_eq_false_iff_not, ge_iff_le, gt_iff_lt] at h)))
            refine hn _ ⟨nx, [.no], G, ?_, ?_, ?_, ?_, ?_, ?_, T⟩ ?_
            · simp only [*, put_slot, dem_slot, ↓reduceIte, reduceCtorEq]
            · simp only [*, put_slot, ↓reduceIte]
            · simp only [*, put_slot, dem_slot, ↓reduceIte, Nat.reduceEqDiff]
            · simp only [*, put_slot, dem_slot, ↓reduceIte, Nat.reduceEqDiff]
            · simp only [*, put_room, ↓reduceIte]
            · simp only [*, put_room, dem_room, dem_room1, ↓reduceIte, Nat.reduceEqDiff]
            · simp only [slotI, *, put_slot, ↓reduceIte, Int.toNat_natCast]
              omega
        · have g1 : ¬ (i : Int) < e := by omega
          rw [untilF_stop (stop := fun k => k == c) (.inl (by omega))] at hinv'
          have hee : i = e := by omega
          clear hinv hai
          subst hinv'
          clear ih' hp hge
          subst hee
          repeat' (first
    | simp only [*, go_nil, go_seq, go_cond, go_exit, go_xcode, go_region, go_ops_nil, go_ops, okG_some, gwD_bool, cwD_bool, gw_false, guardG, opG, inB, sval, stake, eats, eaters, get, cval, cval1, croom, St.taken, put_slot, put_room, dem_none, ↓reduceIte, Nat.reduceEqDiff, Nat.reduceLT, decide_true, decide_false, List.filterMap_cons, List.filterMap_nil, Option.bind_some, Option.map_some, List.getElem?_cons_zero, List.getElem?_cons_succ, List.contains_cons, List.contains_nil, beq_self_eq_true, Bool.or_false, Bool.and_true, Nat.reduceBEq, Bool.false_eq_true, dbin, dIntBin, row9, frz9, frzOf_def, frz_nil, beq_true, dcells, dStrBin]
    | (refine drW_intro (by kernel_rfl) ?_)
    | (refine gw_intro (fun h => ?_) (fun h => ?_) <;> (try simp only [beq_true, beq_false, Bool.not_eq_eq_eq_not, Bool.not_true, Bool.not_false, Bool.not_not, decide_eq_true_eq, decide_eq_false_iff_not, ge_iff_le, gt_iff_lt] at h)))
          refine hx _ _ ?_
          repeat' (first
    | simp only [*, go_seq, go_cond, go_skip, go_retc, go_xblk, go_region, go_ops_nil, go_ops, okG_some, cwD_bool, gw_false, guardG, opG, inB, sval, stake, eats, eaters, get, St.taken, put_slot, put_room, put_box, dem_none, dem_slot, dem_box, dem_room, endQ, endR, endV, rvars, rvar, room1, ↓reduceIte, Nat.reduceEqDiff, Nat.reduceLT, decide_true, decide_false, List.filterMap_cons, List.filterMap_nil, Option.map_some, List.contains_cons, List.contains_nil, List.map_cons, List.map_nil, beq_self_eq_true, Bool.or_false, Bool.or_true, Nat.reduceBEq, Bool.false_eq_true, dbin, dIntBin, row9, frz9, frzOf_def, frz_nil, pureB, leaf, leafN, List.take_nil, List.range_zero, Bool.and_false, and_self]
    | (refine drW_intro (by kernel_rfl) ?_)
    | (refine gw_intro (fun h => ?_) (fun h => ?_) <;> (try simp only [beq_true, beq_false, Bool.not_eq_eq_eq_not, Bool.not_true, Bool.not_false, Bool.not_not, decide_eq_true_eq, decide_eq_false_iff_not, ge_iff_le, gt_iff_lt] at h)))
theorem behindR_L {ts : List Tk} (hl : ts.length ≤ 1000000) {e a : Nat} (he : e ≤ ts.length) (ha : a < e) : callL Try.prog ext9 21 [Tks ts, .int .i64 (a : Nat), .int .i64 (e : Nat)] [] =
    some (.tuple [.int .i64 ((behindF (kd ts) e a).1 : Nat), .int .i64 ((behindF (kd ts) e a).2 : Nat)], [.no, .no], []) := behind_L ts hl e he (e - a) a (Nat.le_refl _) ha
/-- Up to one of two kinds. -/
def or2 (x y : Int) (k : Int) : Bool := k == x || k == y
set_option maxHeartbeats 8000000 in
theorem runtil_L {ts : List Tk} (hl : ts.length ≤ 1000000) {e a : Nat} (he : e ≤ ts.length) (ha : a ≤ e) (x y : Int) : callL Try.prog ext9 33 [Tks ts, .int .i64 (a : Nat), .int .i64 (e : Nat), .int .i64 x, .int .i64 y] [] =
    some (.int .i64 (untilF (kd ts) e (or2 x y) a : Nat), [.no], []) := by
  have lN := TkLen ts
  refine callK (m := 40) (res := [10]) (rs := [.tmp 10]) rfl Try.func33 rfl rfl rfl rfl rfl ?_
  obtain ⟨p, hp⟩ : ∃ p, Hid (untilF (kd ts) e (or2 x y) a = p) := ⟨_, rfl⟩
  rw [hp.out]
  repeat' (first
    | simp only [*, go_seq, go_block, go_loop, go_region, go_ops_nil, go_ops, okG_some, guardG, opG, inB, sval, stake, eats, eaters, get, cval, cval1, croom, dem_none, ↓reduceIte, Nat.reduceLT, decide_true, List.filterMap_cons, List.filterMap_nil, List.contains_cons, List.contains_nil, Bool.or_false, Bool.false_eq_true, row9, frz9, frzOf_def, frz_nil, List.length_nil]
    | (refine drW_intro (by kernel_rfl) ?_)
    | (refine gw_intro (fun h => ?_) (fun h => ?_) <;> (try simp only [beq_true, beq_false, Bool.not_eq_eq_eq_not, Bool.not_true, Bool.not_false, Bool.not_not, decide_eq_true_eq, decide_eq_false_iff_not, ge_iff_le, gt_iff_lt] at h)))
  refine loopH (fun st => ∃ (i : Nat) (r : List Room), Hd (i ≤ e ∧ NR r) ∧ st.slot 0 = .list (ts.map Tk.d) ∧ st.slot 1 = .int .i64 i ∧ st.slot 2 = .int .i64 e ∧ st.slot 3 = .int .i64 x ∧ st.slot 4 = .int .i64 y ∧ st.room 1 = r ∧ Hd (untilF (kd ts) e (or2 x y) i = p))
    (fun st => e - slotI st 1) ?_ ?_
  · refine ⟨a, [], Hd.mk ⟨ha, .inl rfl⟩, ?_, ?_, ?_, ?_, ?_, ?_, hp⟩
    all_goals simp only [*, put_slot, put_room, entry_slot, entry_room, ↓reduceIte, Nat.reduceEqDiff, reduceCtorEq, List.getD_cons_zero, List.getD_cons_succ]
  · rintro st K ⟨i, r, hai, s0, s1, s2, s3, s4, r1, hinv⟩ hn hx hr
    obtain ⟨hai2, hnr⟩ := (show i ≤ e ∧ NR r from hai)
    have hinv' : untilF (kd ts) e (or2 x y) i = p := hinv
    by_cases hie : i < e
    · have g1 : (i : Int) < e := by omega
      have g2 : (i : Int) < ts.length := by omega
      have hg := tk_at ts i (by omega)
      by_cases hk : kd ts i = x ∨ kd ts i = y
      · rw [untilF_stop (.inr (by simp [or2, hk]))] at hinv'
        have hy : (kd ts i != x) = false ∨ ((kd ts i != x) = true ∧ (kd ts i != y) = false) := by
          rcases hk with h | h
          · exact .inl (by simp [h])
          · by_cases h2 : kd ts i = x
            · exact .inl (by simp [h2])
            · exact .inr ⟨by simp [h2], by simp [h]⟩
        clear hinv hk hai
        subst hinv'
        clear hp
        rcases hy with hy | ⟨hy1, hy2⟩
        · repeat' (first
    | simp only [*, go_nil, go_seq, go_cond, go_exit, go_xcode, go_region, go_ops_nil, go_ops, okG_some, gwD_bool, cwD_bool, gw_true, gw_false, guardG, opG, inB, sval, stake, eats, eaters, get, cval, cval1, croom, St.taken, put_slot, put_room, dem_none, ↓reduceIte, Nat.reduceEqDiff, Nat.reduceLT, reduceCtorEq, decide_true, List.filterMap_cons, List.filterMap_nil, Option.bind_some, Option.map_some, List.getElem?_cons_zero, List.getElem?_cons_succ, List.contains_cons, List.contains_nil, beq_self_eq_true, Bool.or_false, Nat.reduceBEq, Bool.false_eq_true, dbin, dIntBin, row9, frz9, frzOf_def, frz_nil, beq_true, List.length_nil, List.length_cons, dcells, Nat.zero_add, Nat.reduceAdd, Bool.and_false, Int.natCast_nonneg, Int.toNat_natCast, and_self, Nat.add_zero, dStrBin, dp3, fa56_0, ia24]
    | (refine drW_intro (by kernel_rfl) ?_)
    | (refine gw_intro (fun h => ?_) (fun h => ?_) <;> (try simp only [beq_true, beq_false, Bool.not_eq_eq_eq_not, Bool.not_true, Bool.not_false, Bool.not_not, decide_eq_true_eq, decide_eq_false_iff_not, ge_iff_le, gt_iff_lt] at h)))
          refine hx _ _ ?_
          repeat' (first
    | simp only [*, go_seq, go_retc, go_xblk, go_region, go_ops_nil, go_ops, okG_some, guardG, opG, inB, sval, stake, eats, eaters, get, St.taken, put_slot, put_room, put_box, dem_box, endQ, endR, endV, rvars, rvar, room1, ↓reduceIte, Nat.reduceEqDiff, Nat.reduceLT, decide_true, List.filterMap_cons, List.filterMap_nil, List.contains_cons, List.contains_nil, List.map_nil, beq_self_eq_true, Bool.or_false, Nat.reduceBEq, Bool.false_eq_true, row9, frz9, frzOf_def, frz_nil, pureB, leaf, leafN, List.range_zero, Bool.and_false, and_true]
    | (refine drW_intro (by kernel_rfl) ?_)
    | (refine gw_intro (fun h => ?_) (fun h => ?_) <;> (try simp only [beq_true, beq_false, Bool.not_eq_eq_eq_not, Bool.not_true, Bool.not_false, Bool.not_not, decide_eq_true_eq, decide_eq_false_iff_not, ge_iff_le, gt_iff_lt] at h)))
          rcases hnr with rfl | rfl <;> rfl
        · repeat' (first
    | simp only [*, go_nil, go_seq, go_cond, go_exit, go_xcode, go_region, go_ops_nil, go_ops, okG_some, gwD_bool, cwD_bool, gw_true, gw_false, guardG, opG, inB, sval, stake, eats, eaters, get, croom, St.taken, put_slot, put_room, dem_none, ↓reduceIte, Nat.reduceEqDiff, Nat.reduceLT, reduceCtorEq, decide_true, List.filterMap_cons, List.filterMap_nil, Option.bind_some, Option.map_some, List.getElem?_cons_zero, List.getElem?_cons_succ, List.contains_cons, List.contains_nil, beq_self_eq_true, Bool.or_false, Nat.reduceBEq, Bool.false_eq_true, dbin, dIntBin, row9, frz9, frzOf_def, frz_nil, List.length_nil, List.length_cons, dcells, Nat.zero_add, Nat.reduceAdd, Bool.and_false, Int.natCast_nonneg, Int.toNat_natCast, and_self, Nat.add_zero, dStrBin, dp3, fa56_0, ia24]
    | (refine drW_intro (by kernel_rfl) ?_)
    | (refine gw_intro (fun h => ?_) (fun h => ?_) <;> (try simp only [beq_true, beq_false, Bool.not_eq_eq_eq_not, Bool.not_true, Bool.not_false, Bool.not_not, decide_eq_true_eq, decide_eq_false_iff_not, ge_iff_le, gt_iff_lt] at h)))
          refine hx _ _ ?_
          repeat' (first
    | simp only [*, go_seq, go_retc, go_xblk, go_region, go_ops_nil, go_ops, okG_some, guardG, opG, inB, sval, stake, eats, eaters, get, St.taken, put_slot, put_room, put_box, dem_box, endQ, endR, endV, rvars, rvar, room1, ↓reduceIte, Nat.reduceEqDiff, Nat.reduceLT, decide_true, List.filterMap_cons, List.filterMap_nil, List.contains_cons, List.contains_nil, List.map_nil, beq_self_eq_true, Bool.or_false, Nat.reduceBEq, Bool.false_eq_true, row9, frz9, frzOf_def, frz_nil, pureB, leaf, leafN, List.range_zero, Bool.and_false, and_true]
    | (refine drW_intro (by kernel_rfl) ?_)
    | (refine gw_intro (fun h => ?_) (fun h => ?_) <;> (try simp only [beq_true, beq_false, Bool.not_eq_eq_eq_not, Bool.not_true, Bool.not_false, Bool.not_not, decide_eq_true_eq, decide_eq_false_iff_not, ge_iff_le, gt_iff_lt] at h)))
          rcases hnr with rfl | rfl <;> rfl
      · have b1 : (kd ts i != x) = true := by simp; exact fun h => hk (.inl h)
        have b2 : (kd ts i != y) = true := by simp; exact fun h => hk (.inr h)
        have hB := behindR_L hl he hie
        have hpos := behindF_pos (ks := kd ts) hie
        have T := Hd.mk (show untilF (kd ts) e (or2 x y) (behindF (kd ts) e i).1 = p by
          rw [← untilF_step hie (by unfold or2; rw [beq_eq_false_iff_ne.2 (fun h => hk (.inl h)), beq_eq_false_iff_ne.2 (fun h => hk (.inr h))]; rfl)]; exact hinv')
        generalize (behindF (kd ts) e i).1 = nx at *
        have G := Hd.mk (show nx ≤ e ∧ NR [.no] from ⟨by omega, .inr rfl⟩)
        clear hinv hinv' hk hai
        repeat' (first
    | simp only [*, go_nil, go_seq, go_cond, go_block, go_blk, go_skip, go_region, go_ops_nil, go_ops, okG_some, gwD_bool, cwD_bool, gw_true, guardG, opG, isPtr, inB, sval, stake, eats, eaters, get, croom, St.taken, put_slot, put_room, dem_none, dem_slot, dem_room1, ↓reduceIte, Nat.reduceEqDiff, Nat.reduceLT, reduceCtorEq, decide_true, List.filterMap_cons, List.filterMap_nil, Option.bind_some, Option.map_some, List.getElem?_cons_zero, List.getElem?_cons_succ, List.contains_cons, List.contains_nil, List.map_cons, List.map_nil, beq_self_eq_true, Bool.or_false, Bool.or_true, Bool.and_true, Nat.reduceBEq, Bool.false_eq_true, dbin, dIntBin, okR, callG, row9, frz9, frzOf_def, frz_nil, pureB, leaf, leafN, List.all_cons, List.all_nil, List.nil_append, List.append_nil, List.length_nil, List.length_cons, dcells, Nat.zero_add, Nat.reduceAdd, Bool.and_false, Int.natCast_nonneg, Int.toNat_natCast, and_self, Nat.add_zero, dStrBin, dp3, fa56_0, ia24]
    | (refine drW_intro (by kernel_rfl) ?_)
    | (refine gw_intro (fun h => ?_) (fun h => ?_) <;> (try simp only [beq_true, beq_false, Bool.not_eq_eq_eq_not, Bool.not_true, Bool.not_false, Bool.not_not, decide_eq_true_eq, decide_eq_false_iff_not, ge_iff_le, gt_iff_lt] at h)))
        refine hn _ ⟨nx, [.no], G, ?_, ?_, ?_, ?_, ?_, ?_, T⟩ ?_
        · simp only [*, put_slot, dem_slot, ↓reduceIte, reduceCtorEq]
        · simp only [*, put_slot, ↓reduceIte]
        · simp only [*, put_slot, dem_slot, ↓reduceIte, Nat.reduceEqDiff]
        · simp only [*, put_slot, dem_slot, ↓reduceIte, Nat.reduceEqDiff]
        · simp only [*, put_slot, dem_slot, ↓reduceIte, Nat.reduceEqDiff]
        · simp only [*, put_room, ↓reduceIte]
        · simp only [slotI, *, put_slot, ↓reduceIte, Int.toNat_natCast]
          omega
    · have g1 : ¬ (i : Int) < e := by omega
      rw [untilF_stop (.inl (by omega))] at hinv'
      clear hinv hai
      subst hinv'
      clear hp
      repeat' (first
    | simp only [*, go_nil, go_seq, go_cond, go_exit, go_xcode, go_region, go_ops_nil, go_ops, okG_some, gwD_bool, cwD_bool, gw_false, guardG, opG, inB, sval, stake, eats, eaters, get, cval, cval1, croom, St.taken, put_slot, put_room, dem_none, ↓reduceIte, Nat.reduceEqDiff, Nat.reduceLT, decide_true, decide_false, List.filterMap_cons, List.filterMap_nil, Option.bind_some, Option.map_some, List.getElem?_cons_zero, List.getElem?_cons_succ, List.contains_cons, List.contains_nil, Bool.or_false, Nat.reduceBEq, Bool.false_eq_true, dbin, dIntBin, row9, frz9, frzOf_def, frz_nil, beq_true, dcells, Bool.and_false, dStrBin]
    | (refine drW_intro (by kernel_rfl) ?_)
    | (refine gw_intro (fun h => ?_) (fun h => ?_) <;> (try simp only [beq_true, beq_false, Bool.not_eq_eq_eq_not, Bool.not_true, Bool.not_false, Bool.not_not, decide_eq_true_eq, decide_eq_false_iff_not, ge_iff_le, gt_iff_lt] at h)))
      refine hx _ _ ?_
      repeat' (first
    | simp only [*, go_seq, go_retc, go_xblk, go_region, go_ops_nil, go_ops, okG_some, guardG, opG, inB, sval, stake, eats, eaters, get, St.taken, put_slot, put_room, put_box, dem_box, endQ, endR, endV, rvars, rvar, room1, ↓reduceIte, Nat.reduceEqDiff, Nat.reduceLT, decide_true, List.filterMap_cons, List.filterMap_nil, List.contains_cons, List.contains_nil, List.map_nil, beq_self_eq_true, Bool.or_false, Nat.reduceBEq, Bool.false_eq_true, row9, frz9, frzOf_def, frz_nil, pureB, leaf, leafN, List.range_zero, Bool.and_false, and_true]
    | (refine drW_intro (by kernel_rfl) ?_)
    | (refine gw_intro (fun h => ?_) (fun h => ?_) <;> (try simp only [beq_true, beq_false, Bool.not_eq_eq_eq_not, Bool.not_true, Bool.not_false, Bool.not_not, decide_eq_true_eq, decide_eq_false_iff_not, ge_iff_le, gt_iff_lt] at h)))
      rcases hnr with rfl | rfl <;> rfl
end Go.Av
/- Chapter 19: at-rules: both texts. -/
set_option linter.unusedSimpArgs false
set_option linter.unusedVariables false
set_option linter.unusedSectionVars false
set_option maxRecDepth 100000
namespace Go.Av
open Go.Proofs Go.Proofs.Ytaldmffahmomoaa Go.RowKit
structure Ru where
  at_ : Bool
  name : List UInt8
  fr : Nat
  to : Nat
  has : Bool
  opn : Nat
  en : Nat
def Ru.d (r : Ru) : D := .agg [.bool r.at_, .str r.name, .int .i64 (r.fr : Nat), .int .i64 (r.to : Nat), .bool r.has, .int .i64 (r.opn : Nat), .int .i64 (r.en : Nat)]
/-- Where an at-rule's head ends. -/
def atEnd (ts : List Tk) (e a : Nat) : Nat := untilF (kd ts) e (or2 17 23) (a + 1)
/-- An at-rule, and the place behind it. -/
def atRuleF (ts : List Tk) (e a : Nat) : Ru × Nat :=
  if e ≤ atEnd ts e a then (⟨true, lowB (tx ts a), a + 1, atEnd ts e a, false, 0, 0⟩, atEnd ts e a)
  else if kd ts (atEnd ts e a) = 17 then (⟨true, lowB (tx ts a), a + 1, atEnd ts e a, false, 0, 0⟩, atEnd ts e a + 1)
  else (⟨true, lowB (tx ts a), a + 1, atEnd ts e a, true, atEnd ts e a + 1, (behindF (kd ts) e (atEnd ts e a)).2⟩, (behindF (kd ts) e (atEnd ts e a)).1)
theorem inK_or2 (x y : Int) : inK [x, y] = or2 x y := by
  funext k
  unfold inK or2
  simp only [List.contains_cons, List.contains_nil, Bool.or_false]
theorem atEnd_case {ts : List Tk} {e a : Nat} (h : a < e) : a + 1 ≤ atEnd ts e a ∧ atEnd ts e a ≤ e ∧ (atEnd ts e a = e ∨ (atEnd ts e a < e ∧ (kd ts (atEnd ts e a) = 17 ∨ kd ts (atEnd ts e a) = 23))) := by
  have hg := untilF_ge (ks := kd ts) (e := e) (or2 17 23) (a + 1)
  have ha := untilF_at (ks := kd ts) (e := e) (stop := or2 17 23) (e - (a + 1)) (a + 1) (Nat.le_refl _) (by omega)
  unfold atEnd
  refine ⟨hg.1, hg.2 (by omega), ?_⟩
  generalize untilF (kd ts) e (or2 17 23) (a + 1) = k at *
  rcases (by omega : k = e ∨ k < e) with h1 | h1
  · exact .inl h1
  · refine .inr ⟨h1, ?_⟩
    have := ha h1
    unfold or2 at this
    simpa using this
set_option maxHeartbeats 8000000 in
theorem atRule_L {ts : List Tk} (hT : TL ts) {e a : Nat} (he : e ≤ ts.length) (ha : a < e) : callL Try.prog ext9 29 [.ptr 1000000 0 0] [(⟨0, [.list (ts.map Tk.d), .int .i64 ((a : Nat) : Int), .int .i64 ((e : Nat) : Int)]⟩ : Bx)] =
    some ((atRuleF ts e a).1.d, [.no], [(⟨0, [.list (ts.map Tk.d), .int .i64 (((atRuleF ts e a).2 : Nat) : Int), .int .i64 ((e : Nat) : Int)]⟩ : Bx)]) := by
  have hl := hT.len
  have lN := TkLen ts
  have hro : RO ts a e := ⟨hl, .inl he⟩
  have hLow := lower_L (tx ts a) (by have := hT.txt a; omega)
  have hg := tk_at ts a (by omega)
  have g2 : (a : Int) < ts.length := by omega
  have hw := wrapS a (by omega)
  have hU := until_L (hro.next (a + 1) (by omega)) [17, 23] (by simp)
  rw [inK_or2] at hU
  obtain ⟨k1, k2, k3⟩ := atEnd_case (ts := ts) ha
  unfold atRuleF Ru.d
  generalize hkk : atEnd ts e a = k at *
  have hkk' : untilF (kd ts) e (or2 17 23) (a + 1) = k := hkk
  rw [hkk'] at hU
  have hU' : callL Try.prog ext9 30 [.ptr 1000000 0 0, .list [.int .i64 17, .int .i64 23]] [(⟨0, [.list (ts.map Tk.d), .int .i64 ((a + 1 : Nat) : Int), .int .i64 ((e : Nat) : Int)]⟩ : Bx)] = some (.tuple [], [], [(⟨0, [.list (ts.map Tk.d), .int .i64 ((k : Nat) : Int), .int .i64 ((e : Nat) : Int)]⟩ : Bx)]) := hU
  have i23 := isK_L (hro.next k (by omega)) 23
  have i17 := isK_L (hro.next k (by omega)) 17
  clear hU hkk hkk'
  refine callK (m := 59) (res := []) (rs := [.cell 2 32]) rfl Try.func29 rfl rfl rfl rfl rfl ?_
  rcases k3 with hk | ⟨hk, h17 | h23⟩
  · subst hk
    have b23 : isB ts k k 23 = false := by unfold isB; simp
    have b17 : isB ts k k 17 = false := by unfold isB; simp
    rw [b23] at i23
    rw [b17] at i17
    have hle : k ≤ k := Nat.le_refl _
    rw [if_pos hle]
    clear hro hT k1 k2
    repeat' (first
    | simp only [*, go_seq, go_cond, go_block, go_blk, go_skip, go_retc, go_region, go_draw, go_ops_nil, go_ops, go_dops1, go_dops, okG_some, okB_some, cwD_bool, gw_false, guardG, opG, opD, isPtr, isStore, inB, sval, stake, eats, eaters, get, cval, cval1, St.taken, put_slot, put_room, put_box, put_ctr, put_none, dem_none, dem_slot, dem_box, setBox_slot, setBox_room, setBox_box, entry_slot, entry_box, entry_ctr, endQ, endR, endV, rvars, rvar, room1, ↓reduceIte, Nat.reduceEqDiff, Nat.reduceLT, Nat.reduceLeDiff, reduceCtorEq, decide_true, List.filterMap_cons, List.filterMap_nil, Option.bind_some, Option.map_some, List.getElem?_cons_zero, List.getElem?_cons_succ, List.getD_cons_zero, List.contains_nil, List.map_cons, List.map_nil, beq_self_eq_true, beq_iff_eq, Bool.and_true, Nat.reduceBEq, Bool.false_eq_true, dbin, dIntBin, row9, frz9, frzOf_def, frz_nil, isLocal, allocKey, isAlloc, loadsOwn, ptrAt, Bool.not_true, pureB, leaf, leafN, List.all_cons, List.all_nil, List.nil_append, List.cons_append, List.append_nil, List.length_nil, List.length_cons, List.find?_cons, List.take_zero, List.drop_zero, List.take_succ_cons, List.drop_succ_cons, dcells, Nat.zero_add, Nat.reduceAdd, stepBox, Bool.and_false, and_true, Option.getD_some, Int.natCast_nonneg, Int.toNat_natCast, and_self, Nat.add_zero, plainR_s, ty3, dp3, dp9, fa56_3, ia24, ty32, dp32, fp32_3, zr32, bd32_012, fp51_0, fp51_1, dp24, lst1, pid0, Nat.le_refl, Nat.sub_self, Option.getD_some, stepPtr, Option.some.injEq, bs44_2]
    | (refine drW_intro (by kernel_rfl) ?_)
    | (refine gw_intro (fun h => ?_) (fun h => ?_) <;> (try simp only [beq_true, beq_false, Bool.not_eq_eq_eq_not, Bool.not_true, Bool.not_false, Bool.not_not, decide_eq_true_eq, decide_eq_false_iff_not, ge_iff_le, gt_iff_lt] at h)))
    try rfl
  · have b23 : isB ts k e 23 = false := by unfold isB; simp [h17]
    have b17 : isB ts k e 17 = true := by unfold isB; simp [h17, hk]
    rw [b23] at i23
    rw [b17] at i17
    rw [if_neg (by omega), if_pos h17]
    have hw2 := wrapS k (by omega)
    clear hro hT k1 k2
    repeat' (first
    | simp only [*, go_seq, go_cond, go_block, go_blk, go_retc, go_region, go_draw, go_ops_nil, go_ops, go_dops1, go_dops, okG_some, okB_some, cwD_bool, gw_true, gw_false, guardG, opG, opD, isPtr, isStore, inB, sval, stake, eats, eaters, get, cval, cval1, St.taken, put_slot, put_room, put_box, put_ctr, put_none, dem_none, dem_slot, dem_box, setBox_slot, setBox_room, setBox_box, entry_slot, entry_box, entry_ctr, endQ, endR, endV, rvars, rvar, room1, ↓reduceIte, Nat.reduceEqDiff, Nat.reduceLT, Nat.reduceLeDiff, reduceCtorEq, decide_true, List.filterMap_cons, List.filterMap_nil, Option.bind_some, Option.map_some, List.getElem?_cons_zero, List.getElem?_cons_succ, List.getD_cons_zero, List.contains_nil, List.map_cons, List.map_nil, beq_self_eq_true, beq_iff_eq, Bool.and_true, Nat.reduceBEq, Bool.false_eq_true, dbin, dIntBin, row9, frz9, frzOf_def, frz_nil, isLocal, allocKey, isAlloc, loadsOwn, ptrAt, Bool.not_true, pureB, leaf, leafN, List.all_cons, List.all_nil, List.nil_append, List.cons_append, List.append_nil, List.length_nil, List.length_cons, List.find?_cons, List.take_zero, List.drop_zero, List.take_succ_cons, List.drop_succ_cons, dcells, Nat.zero_add, Nat.reduceAdd, stepBox, Bool.and_false, and_true, Option.getD_some, Int.natCast_nonneg, Int.toNat_natCast, and_self, Nat.add_zero, plainR_s, ty3, dp3, dp9, fa56_3, ia24, ty32, dp32, fp32_3, zr32, bd32_012, fp51_0, fp51_1, dp24, lst1, pid0, Nat.le_refl, Nat.sub_self, Option.getD_some, stepPtr, Option.some.injEq, bs44_2]
    | (refine drW_intro (by kernel_rfl) ?_)
    | (refine gw_intro (fun h => ?_) (fun h => ?_) <;> (try simp only [beq_true, beq_false, Bool.not_eq_eq_eq_not, Bool.not_true, Bool.not_false, Bool.not_not, decide_eq_true_eq, decide_eq_false_iff_not, ge_iff_le, gt_iff_lt] at h)))
    try rfl
  · have b23 : isB ts k e 23 = true := by unfold isB; simp [h23, hk]
    rw [b23] at i23
    have hn17 : ¬ kd ts k = 17 := by omega
    rw [if_neg (by omega), if_neg hn17]
    have hB := block_L (hro.next k (by omega)) hk (by rw [h23]; decide)
    clear hro hT k1 k2
    generalize (behindF (kd ts) e k).1 = nx at *
    generalize (behindF (kd ts) e k).2 = en at *
    repeat' (first
    | simp only [*, go_seq, go_cond, go_block, go_blk, go_retc, go_region, go_draw, go_ops_nil, go_ops, go_dops1, go_dops, okG_some, okB_some, cwD_bool, gw_true, guardG, opG, opD, isPtr, isStore, inB, sval, stake, eats, eaters, get, cval, cval1, St.taken, put_slot, put_room, put_box, put_ctr, put_none, dem_none, dem_slot, dem_box, dem_room1, setBox_slot, setBox_room, setBox_box, entry_slot, entry_box, entry_ctr, endQ, endR, endV, rvars, rvar, room1, ↓reduceIte, Nat.reduceEqDiff, Nat.reduceLT, Nat.reduceLeDiff, reduceCtorEq, decide_true, List.filterMap_cons, List.filterMap_nil, Option.bind_some, Option.map_some, List.getElem?_cons_zero, List.getElem?_cons_succ, List.getD_cons_zero, List.contains_cons, List.contains_nil, List.map_cons, List.map_nil, beq_self_eq_true, beq_iff_eq, Bool.or_false, Bool.or_true, Bool.and_true, Nat.reduceBEq, Bool.false_eq_true, dbin, dIntBin, row9, frz9, frzOf_def, frz_nil, isLocal, allocKey, isAlloc, loadsOwn, ptrAt, Bool.not_true, pureB, leaf, leafN, List.all_cons, List.all_nil, List.nil_append, List.cons_append, List.append_nil, List.length_nil, List.length_cons, List.find?_cons, List.take_zero, List.drop_zero, List.take_succ_cons, List.drop_succ_cons, dcells, Nat.zero_add, Nat.reduceAdd, stepBox, Bool.and_false, Option.getD_some, Int.natCast_nonneg, Int.toNat_natCast, and_self, Nat.add_zero, plainR_s, ty3, ty4, dp3, dp9, fa56_3, ia24, ty32, dp32, fp32_3, fp32_4, fp32_5, fp32_6, zr32, bd32_012, fp51_0, fp51_1, dp24, lst1, pid0, Nat.le_refl, Nat.sub_self, Option.getD_some, stepPtr, Option.some.injEq, bs44_2]
    | (refine drW_intro (by kernel_rfl) ?_)
    | (refine gw_intro (fun h => ?_) (fun h => ?_) <;> (try simp only [beq_true, beq_false, Bool.not_eq_eq_eq_not, Bool.not_true, Bool.not_false, Bool.not_not, decide_eq_true_eq, decide_eq_false_iff_not, ge_iff_le, gt_iff_lt] at h)))
set_option maxHeartbeats 8000000 in
theorem ratRule_L {ts : List Tk} (hT : TL ts) {e a : Nat} (he : e ≤ ts.length) (ha : a < e) : callL Try.prog ext9 32 [Tks ts, .int .i64 (a : Nat), .int .i64 (e : Nat)] [] =
    some (.tuple [(atRuleF ts e a).1.d, .int .i64 ((atRuleF ts e a).2 : Nat)], [.no, .no], []) := by
  have hl := hT.len
  have lN := TkLen ts
  obtain ⟨r, hLow⟩ := rlower_L (tx ts a) (by have := hT.txt a; omega)
  have hg := tk_at ts a (by omega)
  have g2 : (a : Int) < ts.length := by omega
  have hw := wrapS a (by omega)
  have hU := runtil_L hl he (show a + 1 ≤ e by omega) 17 23
  obtain ⟨k1, k2, k3⟩ := atEnd_case (ts := ts) ha
  unfold atRuleF Ru.d
  generalize hkk : atEnd ts e a = k at *
  have hkk' : untilF (kd ts) e (or2 17 23) (a + 1) = k := hkk
  rw [hkk'] at hU
  clear hkk hkk'
  refine callK (m := 57) (res := [7]) (rs := [.cell 6 32, .tmp 7]) rfl Try.func32 rfl rfl rfl rfl rfl ?_
  rcases k3 with hk | ⟨hk, h17 | h23⟩
  · subst hk
    have hle : k ≤ k := Nat.le_refl _
    rw [if_pos hle]
    clear hT k1 k2
    repeat' (first
    | simp only [*, go_seq, go_cond, go_retc, go_region, go_ops_nil, go_ops, okG_some, okB_some, cwD_bool, gw_true, guardG, opG, isPtr, inB, sval, stake, eats, eaters, get, cval, cval1, croom, St.taken, put_slot, put_room, put_box, put_ctr, put_none, dem_none, dem_slot, dem_box, dem_room, setBox_slot, setBox_room, setBox_box, entry_slot, entry_room, entry_box, entry_ctr, endQ, endR, endV, rvars, rvar, room1, ↓reduceIte, Nat.reduceEqDiff, Nat.reduceLT, Nat.reduceLeDiff, reduceCtorEq, decide_true, List.filterMap_cons, List.filterMap_nil, Option.map_some, List.getElem?_cons_zero, List.getElem?_cons_succ, List.getD_cons_zero, List.getD_cons_succ, List.contains_cons, List.contains_nil, List.map_cons, List.map_nil, beq_self_eq_true, Bool.or_false, Bool.and_true, Nat.reduceBEq, Bool.false_eq_true, dbin, dIntBin, okR, callG, row9, frz9, frzOf_def, frz_nil, pureB, leaf, leafN, List.all_cons, List.all_nil, List.nil_append, List.cons_append, List.append_nil, List.take_nil, List.range_zero, List.length_nil, List.length_cons, List.getElem?_nil, List.take_zero, List.drop_zero, List.take_succ_cons, List.drop_succ_cons, dcells, Nat.zero_add, Nat.reduceAdd, stepBox, Bool.and_false, and_true, Int.natCast_nonneg, Int.toNat_natCast, and_self, ty3, dp9, fa56_3, ia24, ty32, dp32, fp32_3, zr32, bd32_012, Nat.le_refl]
    | (refine drW_intro (by kernel_rfl) ?_)
    | (refine gw_intro (fun h => ?_) (fun h => ?_) <;> (try simp only [beq_true, beq_false, Bool.not_eq_eq_eq_not, Bool.not_true, Bool.not_false, Bool.not_not, decide_eq_true_eq, decide_eq_false_iff_not, ge_iff_le, gt_iff_lt] at h)))
    all_goals rfl
  · rw [if_neg (by omega), if_pos h17]
    have hw2 := wrapS k (by omega)
    have hne : ((k : Int) == (e : Int)) = false := beq_eq_false_iff_ne.2 (by omega)
    have hg2 := tk_at ts k (by omega)
    have g3 : (k : Int) < ts.length := by omega
    clear hT k1 k2
    repeat' (first
    | simp only [*, go_seq, go_cond, go_skip, go_retc, go_region, go_ops_nil, go_ops, okG_some, okB_some, cwD_bool, gw_true, gw_false, guardG, opG, isPtr, inB, sval, stake, eats, eaters, get, cval, cval1, croom, St.taken, put_slot, put_room, put_box, put_ctr, put_none, dem_none, dem_slot, dem_box, setBox_slot, setBox_room, setBox_box, entry_slot, entry_box, entry_ctr, endQ, endR, endV, rvars, rvar, room1, ↓reduceIte, Nat.reduceEqDiff, Nat.reduceLT, Nat.reduceLeDiff, reduceCtorEq, decide_true, List.filterMap_cons, List.filterMap_nil, Option.map_some, List.getElem?_cons_zero, List.getElem?_cons_succ, List.getD_cons_zero, List.getD_cons_succ, List.contains_cons, List.contains_nil, List.map_cons, List.map_nil, beq_self_eq_true, Bool.or_false, Bool.and_true, Nat.reduceBEq, Bool.false_eq_true, dbin, dIntBin, okR, callG, row9, frz9, frzOf_def, frz_nil, pureB, leaf, leafN, List.all_cons, List.all_nil, List.nil_append, List.cons_append, List.append_nil, List.take_nil, List.range_zero, List.length_nil, List.length_cons, List.getElem?_nil, List.take_zero, List.drop_zero, List.take_succ_cons, List.drop_succ_cons, dcells, Nat.zero_add, Nat.reduceAdd, stepBox, Bool.and_false, and_true, Int.natCast_nonneg, Int.toNat_natCast, and_self, Nat.add_zero, ty3, dp3, dp9, fa56_0, fa56_3, ia24, ty32, dp32, fp32_3, zr32, bd32_012, Nat.le_refl]
    | (refine drW_intro (by kernel_rfl) ?_)
    | (refine gw_intro (fun h => ?_) (fun h => ?_) <;> (try simp only [beq_true, beq_false, Bool.not_eq_eq_eq_not, Bool.not_true, Bool.not_false, Bool.not_not, decide_eq_true_eq, decide_eq_false_iff_not, ge_iff_le, gt_iff_lt] at h)))
    all_goals rfl
  · have hn17 : ¬ kd ts k = 17 := by omega
    rw [if_neg (by omega), if_neg hn17]
    have hw2 := wrapS k (by omega)
    have hne : ((k : Int) == (e : Int)) = false := beq_eq_false_iff_ne.2 (by omega)
    have b17 : (kd ts k == 17) = false := beq_eq_false_iff_ne.2 hn17
    have hg2 := tk_at ts k (by omega)
    have g3 : (k : Int) < ts.length := by omega
    have hB := behindR_L hl he hk
    clear hT k1 k2 h23 hn17
    generalize (behindF (kd ts) e k).1 = nx at *
    generalize (behindF (kd ts) e k).2 = en at *
    repeat' (first
    | simp only [*, go_seq, go_cond, go_skip, go_retc, go_region, go_ops_nil, go_ops, okG_some, okB_some, cwD_bool, gw_false, guardG, opG, isPtr, inB, sval, stake, eats, eaters, get, cval, cval1, croom, St.taken, put_slot, put_room, put_box, put_ctr, put_none, dem_none, dem_slot, dem_box, dem_room, dem_room1, setBox_slot, setBox_room, setBox_box, entry_slot, entry_box, entry_ctr, endQ, endR, endV, rvars, rvar, room1, ↓reduceIte, Nat.reduceEqDiff, Nat.reduceLT, Nat.reduceLeDiff, reduceCtorEq, decide_true, List.filterMap_cons, List.filterMap_nil, Option.map_some, List.getElem?_cons_zero, List.getElem?_cons_succ, List.getD_cons_zero, List.getD_cons_succ, List.contains_cons, List.contains_nil, List.map_cons, List.map_nil, beq_self_eq_true, Bool.or_false, Bool.or_true, Bool.and_true, Nat.reduceBEq, Bool.false_eq_true, dbin, dIntBin, okR, callG, row9, frz9, frzOf_def, frz_nil, pureB, leaf, leafN, List.all_cons, List.all_nil, List.nil_append, List.cons_append, List.append_nil, List.take_nil, List.range_zero, List.length_nil, List.length_cons, List.getElem?_nil, List.take_zero, List.drop_zero, List.take_succ_cons, List.drop_succ_cons, dcells, Nat.zero_add, Nat.reduceAdd, stepBox, Bool.and_false, Int.natCast_nonneg, Int.toNat_natCast, and_self, Nat.add_zero, ty3, ty4, dp3, dp9, fa56_0, fa56_3, ia24, ty32, dp32, fp32_3, fp32_4, fp32_5, fp32_6, zr32, bd32_012, Nat.le_refl]
    | (refine drW_intro (by kernel_rfl) ?_)
    | (refine gw_intro (fun h => ?_) (fun h => ?_) <;> (try simp only [beq_true, beq_false, Bool.not_eq_eq_eq_not, Bool.not_true, Bool.not_false, Bool.not_not, decide_eq_true_eq, decide_eq_false_iff_not, ge_iff_le, gt_iff_lt] at h)))
end Go.Av
/- Chapter 19: the rules of a part: the program's text. -/
set_option linter.unusedSimpArgs false
set_option linter.unusedVariables false
set_option linter.unusedSectionVars false
set_option maxRecDepth 100000
namespace Go.Av
open Go.Proofs Go.Proofs.Ytaldmffahmomoaa Go.RowKit
def blankB (top : Bool) (k : Int) : Bool := k == 13 || (top && (k == 14 || k == 15))
/-- Where a rule's head ends. -/
def headE (ts : List Tk) (e a : Nat) : Nat := untilF (kd ts) e (or2 23 23) a
def ruleF (ts : List Tk) (e a : Nat) : Ru := ⟨false, [], a, headE ts e a, true, headE ts e a + 1, (behindF (kd ts) e (headE ts e a)).2⟩
def rulesN (ts : List Tk) (e : Nat) (top : Bool) : Nat → Nat → List Ru
  | 0, _ => []
  | n + 1, a => if a < e then
      (if blankB top (kd ts a) = true then rulesN ts e top n (a + 1)
       else if kd ts a = 3 then (atRuleF ts e a).1 :: rulesN ts e top n (atRuleF ts e a).2
       else if e ≤ headE ts e a then [] else ruleF ts e a :: rulesN ts e top n (behindF (kd ts) e (headE ts e a)).1)
    else []
def rulesF (ts : List Tk) (e : Nat) (top : Bool) (a : Nat) : List Ru := rulesN ts e top (e - a) a
theorem atRuleF_pos {ts : List Tk} {e a : Nat} (h : a < e) : a < (atRuleF ts e a).2 ∧ (atRuleF ts e a).2 ≤ e := by
  obtain ⟨k1, k2, k3⟩ := atEnd_case (ts := ts) h
  unfold atRuleF
  split
  · exact ⟨by show a < atEnd ts e a; omega, k2⟩
  · split
    · exact ⟨by show a < atEnd ts e a + 1; omega, by show atEnd ts e a + 1 ≤ e; omega⟩
    · have := behindF_pos (ks := kd ts) (e := e) (a := atEnd ts e a) (by omega)
      exact ⟨by show a < (behindF (kd ts) e (atEnd ts e a)).1; omega, this.2.1⟩
theorem headE_pos {ts : List Tk} {e a : Nat} : a ≤ headE ts e a ∧ (a ≤ e → headE ts e a ≤ e) := untilF_ge _ _
theorem headE_at {ts : List Tk} {e a : Nat} (h : a ≤ e) (hk : headE ts e a < e) : kd ts (headE ts e a) = 23 := by
  have := untilF_at (ks := kd ts) (e := e) (stop := or2 23 23) (e - a) a (Nat.le_refl _) h hk
  unfold headE
  generalize untilF (kd ts) e (or2 23 23) a = k at *
  unfold or2 at this
  simpa using this
theorem rulesN_fuel {ts : List Tk} {e : Nat} {top : Bool} : ∀ (n m a : Nat), e - a ≤ n → e - a ≤ m → rulesN ts e top n a = rulesN ts e top m a
  | 0, 0, _, _, _ => rfl
  | 0, m + 1, a, h, _ => by
    unfold rulesN
    rw [if_neg (by omega)]
  | n + 1, 0, a, _, h => by
    unfold rulesN
    rw [if_neg (by omega)]
  | n + 1, m + 1, a, h1, h2 => by
    unfold rulesN
    by_cases h : a < e
    · rw [if_pos h, if_pos h]
      have p1 := atRuleF_pos (ts := ts) h
      rw [rulesN_fuel n m (a + 1) (by omega) (by omega), rulesN_fuel n m (atRuleF ts e a).2 (by omega) (by omega)]
      by_cases hk : e ≤ headE ts e a
      · rw [if_pos hk, if_pos hk]
      · have p2 := behindF_pos (ks := kd ts) (e := e) (a := headE ts e a) (by omega)
        have p3 := headE_pos (ts := ts) (e := e) (a := a)
        rw [rulesN_fuel n m (behindF (kd ts) e (headE ts e a)).1 (by omega) (by omega)]
    · rw [if_neg h, if_neg h]
theorem rulesF_end {ts : List Tk} {e a : Nat} {top : Bool} (h : e ≤ a) : rulesF ts e top a = [] := by
  unfold rulesF
  rw [show e - a = 0 by omega]
  rfl
theorem rulesF_step {ts : List Tk} {e a : Nat} {top : Bool} (h : a < e) : rulesF ts e top a =
    if blankB top (kd ts a) = true then rulesF ts e top (a + 1)
       else if kd ts a = 3 then (atRuleF ts e a).1 :: rulesF ts e top (atRuleF ts e a).2
       else if e ≤ headE ts e a then [] else ruleF ts e a :: rulesF ts e top (behindF (kd ts) e (headE ts e a)).1 := by
  have p1 := atRuleF_pos (ts := ts) h
  have e1 : rulesF ts e top a = rulesN ts e top ((e - a - 1) + 1) a := by unfold rulesF; congr 1; omega
  rw [e1, rulesN, if_pos h]
  unfold rulesF
  rw [rulesN_fuel (e - a - 1) (e - (a + 1)) (a + 1) (by omega) (by omega), rulesN_fuel (e - a - 1) (e - (atRuleF ts e a).2) (atRuleF ts e a).2 (by omega) (by omega)]
  by_cases hk : e ≤ headE ts e a
  · rw [if_pos hk, if_pos hk]
  · have p2 := behindF_pos (ks := kd ts) (e := e) (a := headE ts e a) (by omega)
    have p3 := headE_pos (ts := ts) (e := e) (a := a)
    rw [rulesN_fuel (e - a - 1) (e - (behindF (kd ts) e (headE ts e a)).1) (behindF (kd ts) e (headE ts e a)).1 (by omega) (by omega)]
theorem szRu (rs : List Ru) : szOk 7 (rs.map Ru.d) = true := by cases rs <;> rfl
theorem snocRu (rs : List Ru) (r : Ru) : rs.map Ru.d ++ [r.d] = (rs ++ [r]).map Ru.d := by simp
theorem bs26R (r : Ru) : dbuildSlice Try.prog 26 1 [(0, r.d)] = some (.list [r.d]) := bs26 _ _ _ _ _ _ _
end Go.Av
/- Chapter 19: the rules of a part: the program's text, walked. -/
set_option linter.unusedSimpArgs false
set_option linter.unusedVariables false
set_option linter.unusedSectionVars false
set_option maxRecDepth 100000
namespace Go.Av
open Go.Proofs Go.Proofs.Ytaldmffahmomoaa Go.RowKit
theorem isB_of {ts : List Tk} {a e : Nat} (h : a < e) (k : Int) : isB ts a e k = decide (kd ts a = k) := by unfold isB; simp [h]
set_option maxHeartbeats 16000000 in
theorem rules_L {ts : List Tk} (hT : TL ts) (fr to : Int) (top : Bool) : ∃ r, callL Try.prog ext9 10 [Tks ts, .int .i64 fr, .int .i64 to, .bool top] [] =
    some (.list ((rulesF ts (cutF ts fr to).2 top (cutF ts fr to).1).map Ru.d), [r], []) := by
  have hl := hT.len
  have hP := part_L ts hl fr to
  have hle := cutF_le ts fr to
  have hge := cutF_ge ts fr to
  have lN := TkLen ts
  generalize (cutF ts fr to).1 = a at *
  generalize (cutF ts fr to).2 = e at *
  refine ⟨if rulesF ts e top a = [] then .full else .own 32, ?_⟩
  obtain ⟨all, hall⟩ : ∃ all, Hid (rulesF ts e top a = all) := ⟨_, rfl⟩
  rw [hall.out]
  have hT' := Hd.mk hT
  clear hT
  refine callK (m := 73) (res := [8]) (rs := [.tmp 8]) rfl Try.func10 rfl rfl rfl rfl rfl ?_
  repeat' (first
    | simp only [*, go_seq, go_block, go_loop, go_region, go_ops_nil, go_ops, okG_some, guardG, opG, isPtr, inB, sval, stake, eats, eaters, get, cval, cval1, croom, St.taken, put_slot, put_room, put_ctr, dem_none, setBox_slot, setBox_room, entry_slot, entry_ctr, ↓reduceIte, Nat.reduceEqDiff, Nat.reduceLT, reduceCtorEq, decide_true, List.filterMap_cons, List.filterMap_nil, List.getD_cons_zero, List.getD_cons_succ, List.contains_cons, List.contains_nil, List.map_cons, List.map_nil, Bool.or_false, Bool.and_true, Nat.reduceBEq, Bool.false_eq_true, okR, callG, row9, frz9, frzOf_def, frz_nil, pureB, leaf, leafN, List.all_cons, List.all_nil, List.nil_append, List.append_nil, List.length_nil, Nat.reduceAdd, Bool.and_false]
    | (refine drW_intro (by kernel_rfl) ?_)
    | (refine gw_intro (fun h => ?_) (fun h => ?_) <;> (try simp only [beq_true, beq_false, Bool.not_eq_eq_eq_not, Bool.not_true, Bool.not_false, Bool.not_not, decide_eq_true_eq, decide_eq_false_iff_not, ge_iff_le, gt_iff_lt] at h)))
  refine loopH (fun st => ∃ (i : Nat) (done : List Ru), Hd (a ≤ i ∧ i ≤ e) ∧ st.slot 9 = .ptr 14 1 0 ∧ st.box 14 = some ⟨1, [.list (ts.map Tk.d), .int .i64 (i : Nat), .int .i64 (e : Nat)]⟩ ∧ st.slot 3 = .bool top ∧ st.slot 8 = .list (done.map Ru.d) ∧
    ((Hd (done = []) ∧ st.room 8 = [.full]) ∨ (Hd (done ≠ []) ∧ st.room 8 = [.own 32])) ∧ Hd (a + done.length ≤ i) ∧ Hd (done ++ rulesF ts e top i = all))
    (fun st => match st.box 14 with | some ⟨_, [_, .int _ n, _]⟩ => e - n.toNat | _ => 0) ?_ ?_
  · refine ⟨a, [], Hd.mk ⟨Nat.le_refl _, hge⟩, ?_, ?_, ?_, ?_, .inl ⟨Hd.mk rfl, ?_⟩, Hd.mk (Nat.le_refl _), hall⟩
    all_goals simp only [*, put_slot, put_room, put_box, dem_slot, dem_box, dem_room, setBox_box, entry_slot, ↓reduceIte, Nat.reduceEqDiff, List.getD_cons_zero, List.getD_cons_succ, List.map_nil]
    all_goals rfl
  · rintro st K ⟨i, done, hai, h9, hbx, h3, h8, hrm, hdl, hinv⟩ hn hx hr
    obtain ⟨hai1, hai2⟩ := (show a ≤ i ∧ i ≤ e from hai)
    have hdl' : a + done.length ≤ i := hdl
    have hinv' : done ++ rulesF ts e top i = all := hinv
    have hE := ends_L ts i e
    by_cases hie : e ≤ i
    · rw [decide_eq_true hie] at hE
      rw [rulesF_end hie, List.append_nil] at hinv'
      subst hinv'
      clear hinv hall
      repeat' (first
    | simp only [*, go_nil, go_seq, go_cond, go_exit, go_xcode, go_region, go_ops_nil, go_ops, okG_some, okB_some, cwD_bool, gw_false, guardG, opG, isPtr, inB, sval, stake, eats, eaters, get, St.taken, put_slot, put_box, dem_none, ↓reduceIte, Nat.reduceLT, decide_true, List.filterMap_cons, List.filterMap_nil, Option.map_some, List.contains_cons, List.contains_nil, List.map_cons, List.map_nil, Bool.or_false, Nat.reduceBEq, Bool.false_eq_true, row9, frz9, frzOf_def, frz_nil, Bool.not_true, List.all_nil, dun, Bool.and_false, and_self, pid0, stepPtr]
    | (refine drW_intro (by kernel_rfl) ?_)
    | (refine gw_intro (fun h => ?_) (fun h => ?_) <;> (try simp only [beq_true, beq_false, Bool.not_eq_eq_eq_not, Bool.not_true, Bool.not_false, Bool.not_not, decide_eq_true_eq, decide_eq_false_iff_not, ge_iff_le, gt_iff_lt] at h)))
      refine hx _ _ ?_
      repeat' (first
    | simp only [*, go_seq, go_retc, go_xblk, go_region, go_ops_nil, go_ops, okG_some, guardG, opG, inB, sval, stake, eats, eaters, get, St.taken, put_slot, put_room, put_box, dem_box, setBox_slot, setBox_room, setBox_box, endQ, endR, endV, rvars, rvar, room1, ↓reduceIte, Nat.reduceEqDiff, Nat.reduceLT, decide_true, List.filterMap_cons, List.filterMap_nil, List.contains_cons, List.contains_nil, List.map_nil, beq_self_eq_true, Bool.or_false, Nat.reduceBEq, Bool.false_eq_true, row9, frz9, frzOf_def, frz_nil, pureB, leaf, leafN, List.range_zero, Bool.and_false, and_true]
    | (refine drW_intro (by kernel_rfl) ?_)
    | (refine gw_intro (fun h => ?_) (fun h => ?_) <;> (try simp only [beq_true, beq_false, Bool.not_eq_eq_eq_not, Bool.not_true, Bool.not_false, Bool.not_not, decide_eq_true_eq, decide_eq_false_iff_not, ge_iff_le, gt_iff_lt] at h)))
      rcases hrm with ⟨hz, er⟩ | ⟨hz, er⟩ <;> rw [er]
      · have hz' : done = [] := hz
        rw [if_pos hz']; rfl
      · have hz' : done ≠ [] := hz
        rw [if_neg hz']; rfl
    · rw [decide_eq_false hie] at hE
      have hlt : i < e := by omega
      have het : e ≤ ts.length := by rcases hle with h | h <;> omega
      have hro : RO ts i e := ⟨hl, .inl het⟩
      have j13 := isK_L hro 13
      have j14 := isK_L hro 14
      have j15 := isK_L hro 15
      have j3 := isK_L hro 3
      rw [isB_of hlt] at j13 j14 j15 j3
      have hw := wrapS i (by omega)
      have hfit : (done.map Ru.d).length ≤ 1073741823 := by rw [List.length_map]; omega
      have hsz := szRu done
      rw [rulesF_step hlt] at hinv'
      have G := Hd.mk (show a ≤ i + 1 ∧ i + 1 ≤ e by omega)
      have D1 := Hd.mk (show a + done.length ≤ i + 1 by omega)
      have hTL : TL ts := hT'
      have fin : ∀ (b : Bool), (b = false ∨ b = true) := by decide
      by_cases h13 : kd ts i = 13
      · have hb : blankB top (kd ts i) = true := by unfold blankB; rw [h13]; rfl
        rw [if_pos hb] at hinv'
        rw [decide_eq_true h13] at j13
        have T := Hd.mk hinv'
        clear hinv hinv' hb h13 hie hai hdl hdl' hro hTL hall j14 j15 j3 fin
        repeat' (first
    | simp only [*, go_nil, go_seq, go_cond, go_block, go_blk, go_skip, go_region, go_ops_nil, go_ops, okG_some, okB_some, cwD_bool, gw_true, guardG, opG, isPtr, inB, sval, stake, eats, eaters, get, cval, cval1, St.taken, put_slot, put_room, put_box, put_none, dem_none, dem_slot, dem_box, setBox_slot, setBox_box, ↓reduceIte, Nat.reduceEqDiff, Nat.reduceLT, Nat.reduceLeDiff, decide_true, List.filterMap_cons, List.filterMap_nil, Option.map_some, List.getElem?_cons_zero, List.getElem?_cons_succ, List.contains_cons, List.contains_nil, List.map_cons, List.map_nil, Bool.or_false, Bool.and_true, Nat.reduceBEq, Bool.false_eq_true, dbin, dIntBin, row9, frz9, frzOf_def, frz_nil, Bool.not_false, pureB, leaf, leafN, List.all_cons, List.all_nil, List.nil_append, List.cons_append, List.length_nil, List.length_cons, dun, List.take_zero, List.drop_zero, List.take_succ_cons, List.drop_succ_cons, dcells, Nat.zero_add, Nat.reduceAdd, stepBox, Bool.and_false, and_self, ty3, dp3, fp51_1, pid0, stepPtr]
    | (refine drW_intro (by kernel_rfl) ?_)
    | (refine gw_intro (fun h => ?_) (fun h => ?_) <;> (try simp only [beq_true, beq_false, Bool.not_eq_eq_eq_not, Bool.not_true, Bool.not_false, Bool.not_not, decide_eq_true_eq, decide_eq_false_iff_not, ge_iff_le, gt_iff_lt] at h)))
        refine hn _ ⟨i + 1, done, G, ?_, ?_, ?_, ?_, ?_, D1, T⟩ ?_
        · simp only [*, put_slot, dem_slot, setBox_slot, ↓reduceIte, Nat.reduceEqDiff]
        · simp only [*, setBox_box, ↓reduceIte]
        · simp only [*, put_slot, dem_slot, setBox_slot, ↓reduceIte, Nat.reduceEqDiff]
        · simp only [*, put_slot, dem_slot, setBox_slot, ↓reduceIte, Nat.reduceEqDiff]
        · simp only [*, put_room, dem_room, setBox_room, ↓reduceIte, Nat.reduceEqDiff]
        · simp only [*, setBox_box, ↓reduceIte]
          omega
      · rw [decide_eq_false h13] at j13
        by_cases hcd : top = true ∧ (kd ts i = 14 ∨ kd ts i = 15)
        · obtain ⟨ht, hcd⟩ := hcd
          subst ht
          have hb : blankB true (kd ts i) = true := by unfold blankB; rcases hcd with h | h <;> rw [h] <;> rfl
          rw [if_pos hb] at hinv'
          have T := Hd.mk hinv'
          have hc2 : decide (kd ts i = 14) = true ∨ (decide (kd ts i = 14) = false ∧ decide (kd ts i = 15) = true) := by
            rcases hcd with h | h
            · exact .inl (decide_eq_true h)
            · exact .inr ⟨decide_eq_false (by omega), decide_eq_true h⟩
          clear hcd hb h13
          rcases hc2 with c | ⟨c, c2⟩
          · rw [c] at j14
            clear hinv hinv' hie hai hdl hdl' hro hTL hall j15 j3 fin c
            repeat' (first
    | simp only [*, go_nil, go_seq, go_cond, go_block, go_blk, go_skip, go_region, go_ops_nil, go_ops, okG_some, okB_some, gwD_bool, cwD_bool, gw_true, gw_false, guardG, opG, isPtr, inB, sval, stake, eats, eaters, get, cval, cval1, croom, St.taken, put_slot, put_room, put_box, put_none, dem_none, dem_slot, dem_box, dem_room, setBox_slot, setBox_room, setBox_box, ↓reduceIte, Nat.reduceEqDiff, Nat.reduceLT, Nat.reduceLeDiff, decide_true, List.filterMap_cons, List.filterMap_nil, Option.bind_some, Option.map_some, List.getElem?_cons_zero, List.getElem?_cons_succ, List.contains_cons, List.contains_nil, List.map_cons, List.map_nil, beq_self_eq_true, Bool.or_false, Bool.and_true, Nat.reduceBEq, Bool.false_eq_true, dbin, dIntBin, okR, callG, row9, frz9, frzOf_def, frz_nil, beq_false, Bool.not_true, Bool.not_false, pureB, leaf, leafN, List.all_cons, List.all_nil, List.nil_append, List.cons_append, List.length_nil, List.length_cons, dun, List.take_zero, List.drop_zero, List.take_succ_cons, List.drop_succ_cons, dcells, Nat.zero_add, Nat.reduceAdd, stepBox, Bool.and_false, and_self, ty3, dp3, fp51_1, pid0, stepPtr]
    | (refine drW_intro (by kernel_rfl) ?_)
    | (refine gw_intro (fun h => ?_) (fun h => ?_) <;> (try simp only [beq_true, beq_false, Bool.not_eq_eq_eq_not, Bool.not_true, Bool.not_false, Bool.not_not, decide_eq_true_eq, decide_eq_false_iff_not, ge_iff_le, gt_iff_lt] at h)))
            refine hn _ ⟨i + 1, done, G, ?_, ?_, ?_, ?_, ?_, D1, T⟩ ?_
            · simp only [*, put_slot, dem_slot, setBox_slot, ↓reduceIte, Nat.reduceEqDiff]
            · simp only [*, setBox_box, ↓reduceIte]
            · simp only [*, put_slot, dem_slot, setBox_slot, ↓reduceIte, Nat.reduceEqDiff]
            · simp only [*, put_slot, dem_slot, setBox_slot, ↓reduceIte, Nat.reduceEqDiff]
            · simp only [*, put_room, dem_room, setBox_room, ↓reduceIte, Nat.reduceEqDiff]
            · simp only [*, setBox_box, ↓reduceIte]
              omega
          · rw [c] at j14
            rw [c2] at j15
            clear hinv hinv' hie hai hdl hdl' hro hTL hall j3 fin c c2
            repeat' (first
    | simp only [*, go_nil, go_seq, go_cond, go_block, go_blk, go_skip, go_region, go_ops_nil, go_ops, okG_some, okB_some, gwD_bool, cwD_bool, gw_true, gw_false, guardG, opG, isPtr, inB, sval, stake, eats, eaters, get, cval, cval1, croom, St.taken, put_slot, put_room, put_box, put_none, dem_none, dem_slot, dem_box, dem_room, setBox_slot, setBox_room, setBox_box, ↓reduceIte, Nat.reduceEqDiff, Nat.reduceLT, Nat.reduceLeDiff, decide_true, List.filterMap_cons, List.filterMap_nil, Option.bind_some, Option.map_some, List.getElem?_cons_zero, List.getElem?_cons_succ, List.contains_cons, List.contains_nil, List.map_cons, List.map_nil, beq_self_eq_true, Bool.or_false, Bool.and_true, Nat.reduceBEq, Bool.false_eq_true, dbin, dIntBin, okR, callG, row9, frz9, frzOf_def, frz_nil, Bool.not_false, pureB, leaf, leafN, List.all_cons, List.all_nil, List.nil_append, List.cons_append, List.length_nil, List.length_cons, dun, List.take_zero, List.drop_zero, List.take_succ_cons, List.drop_succ_cons, dcells, Nat.zero_add, Nat.reduceAdd, stepBox, Bool.and_false, and_self, ty3, dp3, fp51_1, pid0, stepPtr]
    | (refine drW_intro (by kernel_rfl) ?_)
    | (refine gw_intro (fun h => ?_) (fun h => ?_) <;> (try simp only [beq_true, beq_false, Bool.not_eq_eq_eq_not, Bool.not_true, Bool.not_false, Bool.not_not, decide_eq_true_eq, decide_eq_false_iff_not, ge_iff_le, gt_iff_lt] at h)))
            refine hn _ ⟨i + 1, done, G, ?_, ?_, ?_, ?_, ?_, D1, T⟩ ?_
            · simp only [*, put_slot, dem_slot, setBox_slot, ↓reduceIte, Nat.reduceEqDiff]
            · simp only [*, setBox_box, ↓reduceIte]
            · simp only [*, put_slot, dem_slot, setBox_slot, ↓reduceIte, Nat.reduceEqDiff]
            · simp only [*, put_slot, dem_slot, setBox_slot, ↓reduceIte, Nat.reduceEqDiff]
            · simp only [*, put_room, dem_room, setBox_room, ↓reduceIte, Nat.reduceEqDiff]
            · simp only [*, setBox_box, ↓reduceIte]
              omega
        · have hb : ¬ blankB top (kd ts i) = true := by
            unfold blankB
            intro hh
            simp only [Bool.or_eq_true, Bool.and_eq_true, beq_iff_eq] at hh
            rcases hh with hh | hh
            · exact h13 hh
            · exact hcd hh
          rw [if_neg hb] at hinv'
          have hcd2 : top = false ∨ (top = true ∧ decide (kd ts i = 14) = false ∧ decide (kd ts i = 15) = false) := by
            cases ht : top with
            | false => exact .inl rfl
            | true => exact .inr ⟨rfl, decide_eq_false fun h => hcd ⟨ht, .inl h⟩, decide_eq_false fun h => hcd ⟨ht, .inr h⟩⟩
          have hcd3 := Hd.mk hcd2
          clear hcd hcd2 hb h13
          by_cases h3k : kd ts i = 3
          · rw [decide_eq_true h3k] at j3
            rw [if_pos h3k] at hinv'
            have hA : callL Try.prog ext9 29 [.ptr 1000000 0 0] [(⟨0, [.list (ts.map Tk.d), .int .i64 ((i : Nat) : Int), .int .i64 ((e : Nat) : Int)]⟩ : Bx)] = some (.agg [.bool (atRuleF ts e i).1.at_, .str (atRuleF ts e i).1.name, .int .i64 ((atRuleF ts e i).1.fr : Nat), .int .i64 ((atRuleF ts e i).1.to : Nat), .bool (atRuleF ts e i).1.has, .int .i64 ((atRuleF ts e i).1.opn : Nat), .int .i64 ((atRuleF ts e i).1.en : Nat)], [.no], [(⟨0, [.list (ts.map Tk.d), .int .i64 (((atRuleF ts e i).2 : Nat) : Int), .int .i64 ((e : Nat) : Int)]⟩ : Bx)]) := atRule_L hTL het hlt
            have hpos := atRuleF_pos (ts := ts) hlt
            generalize atRuleF ts e i = q at *
            obtain ⟨x, nx⟩ := q
            have hpos1 : i < nx ∧ nx ≤ e := hpos
            have T := Hd.mk (show (done ++ [x]) ++ rulesF ts e top nx = all by rw [← hinv']; simp)
            have hap : done.map Ru.d ++ [.agg [.bool x.at_, .str x.name, .int .i64 (x.fr : Nat), .int .i64 (x.to : Nat), .bool x.has, .int .i64 (x.opn : Nat), .int .i64 (x.en : Nat)]] = (done ++ [x]).map Ru.d := snocRu done x
            have G2 := Hd.mk (show a ≤ nx ∧ nx ≤ e by omega)
            have D2 := Hd.mk (show a + (done ++ [x]).length ≤ nx by simp; omega)
            clear hinv hinv' h3k hie hai hdl hdl' hro hTL hall fin hpos
            have hrm2 : st.room 8 = [.full] ∨ st.room 8 = [.own 32] := by
              rcases hrm with h | h
              · exact .inl h.2
              · exact .inr h.2
            clear hrm G D1
            rcases (show top = false ∨ (top = true ∧ decide (kd ts i = 14) = false ∧ decide (kd ts i = 15) = false) from hcd3) with rfl | ⟨rfl, c1, c2⟩
            · clear hcd3
              rcases hrm2 with hrm2 | hrm2
              all_goals
                repeat' (first
    | simp only [*, go_nil, go_seq, go_cond, go_block, go_blk, go_skip, go_region, go_ops_nil, go_ops, okG_some, okB_some, gwD_bool, gwD_undef, cwD_bool, gw_true, gw_false, guardG, opG, isPtr, inB, sval, stake, eats, eaters, get, cval, cval1, croom, St.taken, put_slot, put_room, put_box, dem_none, dem_slot, dem_box, dem_room, setBox_slot, setBox_room, setBox_box, ↓reduceIte, Nat.reduceEqDiff, Nat.reduceLT, Nat.reduceLeDiff, reduceCtorEq, decide_true, List.filterMap_cons, List.filterMap_nil, Option.bind_some, Option.map_some, List.getElem?_cons_zero, List.getElem?_cons_succ, List.contains_cons, List.contains_nil, List.map_cons, List.map_nil, beq_self_eq_true, Bool.or_false, Bool.and_true, Nat.reduceBEq, Bool.false_eq_true, okR, callG, row9, frz9, frzOf_def, frz_nil, beq_true, Bool.not_false, pureB, leaf, leafN, List.all_cons, List.all_nil, List.nil_append, List.length_nil, List.length_cons, dun, dcells, Nat.zero_add, Nat.reduceAdd, Bool.and_false, and_true, and_self, or_true, or_false, szOk_cons, List.cons.injEq, List.getElem?_toArray, ap26, bs26, pid0, stepPtr]
    | (refine drW_intro (by kernel_rfl) ?_)
    | (refine gw_intro (fun h => ?_) (fun h => ?_) <;> (try simp only [beq_true, beq_false, Bool.not_eq_eq_eq_not, Bool.not_true, Bool.not_false, Bool.not_not, decide_eq_true_eq, decide_eq_false_iff_not, ge_iff_le, gt_iff_lt] at h)))
                refine hn _ ⟨nx, done ++ [x], G2, ?_, ?_, ?_, ?_, .inr ⟨Hd.mk (by simp), ?_⟩, D2, T⟩ ?_
                · simp only [*, put_slot, dem_slot, setBox_slot, ↓reduceIte, Nat.reduceEqDiff]
                · simp only [*, put_box, dem_box, setBox_box, ↓reduceIte]
                · simp only [*, put_slot, dem_slot, setBox_slot, ↓reduceIte, Nat.reduceEqDiff]
                · simp only [*, put_slot, ↓reduceIte]
                · simp only [*, put_room, ↓reduceIte]
                · simp only [*, put_box, dem_box, setBox_box, ↓reduceIte]
                  omega
            · rw [c1] at j14
              rw [c2] at j15
              clear c1 c2 hcd3
              rcases hrm2 with hrm2 | hrm2
              all_goals
                repeat' (first
    | simp only [*, go_nil, go_seq, go_cond, go_block, go_blk, go_skip, go_region, go_ops_nil, go_ops, okG_some, okB_some, gwD_bool, cwD_bool, gw_true, gw_false, guardG, opG, isPtr, inB, sval, stake, eats, eaters, get, cval, cval1, croom, St.taken, put_slot, put_room, put_box, dem_none, dem_slot, dem_box, dem_room, setBox_slot, setBox_room, setBox_box, ↓reduceIte, Nat.reduceEqDiff, Nat.reduceLT, Nat.reduceLeDiff, reduceCtorEq, decide_true, List.filterMap_cons, List.filterMap_nil, Option.bind_some, Option.map_some, List.getElem?_cons_zero, List.getElem?_cons_succ, List.contains_cons, List.contains_nil, List.map_cons, List.map_nil, beq_self_eq_true, Bool.or_false, Bool.and_true, Nat.reduceBEq, Bool.false_eq_true, okR, callG, row9, frz9, frzOf_def, frz_nil, Bool.not_false, pureB, leaf, leafN, List.all_cons, List.all_nil, List.nil_append, List.length_nil, List.length_cons, dun, dcells, Nat.zero_add, Nat.reduceAdd, Bool.and_false, and_true, and_self, or_true, or_false, szOk_cons, List.cons.injEq, List.getElem?_toArray, ap26, bs26, pid0, stepPtr]
    | (refine drW_intro (by kernel_rfl) ?_)
    | (refine gw_intro (fun h => ?_) (fun h => ?_) <;> (try simp only [beq_true, beq_false, Bool.not_eq_eq_eq_not, Bool.not_true, Bool.not_false, Bool.not_not, decide_eq_true_eq, decide_eq_false_iff_not, ge_iff_le, gt_iff_lt] at h)))
                refine hn _ ⟨nx, done ++ [x], G2, ?_, ?_, ?_, ?_, .inr ⟨Hd.mk (by simp), ?_⟩, D2, T⟩ ?_
                · simp only [*, put_slot, dem_slot, setBox_slot, ↓reduceIte, Nat.reduceEqDiff]
                · simp only [*, put_box, dem_box, setBox_box, ↓reduceIte]
                · simp only [*, put_slot, dem_slot, setBox_slot, ↓reduceIte, Nat.reduceEqDiff]
                · simp only [*, put_slot, ↓reduceIte]
                · simp only [*, put_room, ↓reduceIte]
                · simp only [*, put_box, dem_box, setBox_box, ↓reduceIte]
                  omega
          · rw [decide_eq_false h3k] at j3
            rw [if_neg h3k] at hinv'
            have hU := until_L hro [23] (by simp)
            have hU' : callL Try.prog ext9 30 [.ptr 1000000 0 0, .list [.int .i64 23]] [(⟨0, [.list (ts.map Tk.d), .int .i64 ((i : Nat) : Int), .int .i64 ((e : Nat) : Int)]⟩ : Bx)] = some (.tuple [], [], [(⟨0, [.list (ts.map Tk.d), .int .i64 ((headE ts e i : Nat) : Int), .int .i64 ((e : Nat) : Int)]⟩ : Bx)]) := by
              have e1 : inK [23] = or2 23 23 := by
                funext k
                unfold inK or2
                simp only [List.contains_cons, List.contains_nil, Bool.or_false, Bool.or_self]
              rw [e1] at hU
              exact hU
            have hh := headE_pos (ts := ts) (e := e) (a := i)
            have hE2 := ends_L ts (headE ts e i) e
            by_cases hend : e ≤ headE ts e i
            · rw [decide_eq_true hend] at hE2
              rw [if_pos hend, List.append_nil] at hinv'
              subst hinv'
              generalize headE ts e i = hd2 at *
              clear hinv h3k hie hai hdl hdl' hro hTL hall fin hU hh hn hx G D1
              rcases (show top = false ∨ (top = true ∧ decide (kd ts i = 14) = false ∧ decide (kd ts i = 15) = false) from hcd3) with rfl | ⟨rfl, c1, c2⟩
              · clear hcd3
                repeat' (first
    | simp only [*, go_seq, go_cond, go_block, go_skip, go_retc, go_region, go_ops_nil, go_ops, okG_some, okB_some, gwD_bool, gwD_undef, cwD_bool, gw_true, gw_false, guardG, opG, isPtr, inB, sval, stake, eats, eaters, get, cval, cval1, croom, St.taken, put_slot, put_room, put_box, put_ctr, put_none, dem_none, dem_slot, dem_box, dem_ctr, dem_room, setBox_slot, setBox_room, setBox_ctr, setBox_box, ↓reduceIte, Nat.reduceEqDiff, Nat.reduceLT, Nat.reduceLeDiff, decide_true, List.filterMap_cons, List.filterMap_nil, Option.bind_some, Option.map_some, List.getElem?_cons_zero, List.getElem?_cons_succ, List.contains_cons, List.contains_nil, List.map_cons, List.map_nil, beq_self_eq_true, Bool.or_false, Bool.and_true, Nat.reduceBEq, Bool.false_eq_true, okR, callG, row9, frz9, frzOf_def, frz_nil, beq_true, Bool.not_false, pureB, leaf, leafN, List.all_cons, List.all_nil, List.nil_append, List.cons_append, List.append_nil, List.length_nil, List.length_cons, dun, List.take_zero, List.drop_zero, List.take_succ_cons, List.drop_succ_cons, dcells, Nat.zero_add, Nat.reduceAdd, stepBox, Bool.and_false, and_self, ty3, dp3, bs44, ty32, fp32_3, zr32, bd32_24, fp51_1, pid0, Nat.le_refl, stepPtr]
    | (refine drW_intro (by kernel_rfl) ?_)
    | (refine gw_intro (fun h => ?_) (fun h => ?_) <;> (try simp only [beq_true, beq_false, Bool.not_eq_eq_eq_not, Bool.not_true, Bool.not_false, Bool.not_not, decide_eq_true_eq, decide_eq_false_iff_not, ge_iff_le, gt_iff_lt] at h)))
                refine hr _ ?_
                repeat' (first
    | simp only [*, put_slot, put_room, put_box, dem_box, setBox_box, endQ, endR, endV, rvars, rvar, room1, ↓reduceIte, List.map_nil, pureB, leaf, leafN, List.range_zero, and_true]
    | (refine drW_intro (by kernel_rfl) ?_)
    | (refine gw_intro (fun h => ?_) (fun h => ?_) <;> (try simp only [beq_true, beq_false, Bool.not_eq_eq_eq_not, Bool.not_true, Bool.not_false, Bool.not_not, decide_eq_true_eq, decide_eq_false_iff_not, ge_iff_le, gt_iff_lt] at h)))
                rcases hrm with ⟨hz, er⟩ | ⟨hz, er⟩ <;> rw [er]
                · have hz' : done = [] := hz
                  rw [if_pos hz']; rfl
                · have hz' : done ≠ [] := hz
                  rw [if_neg hz']; rfl
              · rw [c1] at j14
                rw [c2] at j15
                clear c1 c2 hcd3
                repeat' (first
    | simp only [*, go_seq, go_cond, go_block, go_skip, go_retc, go_region, go_ops_nil, go_ops, okG_some, okB_some, gwD_bool, cwD_bool, gw_true, gw_false, guardG, opG, isPtr, inB, sval, stake, eats, eaters, get, cval, cval1, croom, St.taken, put_slot, put_room, put_box, put_ctr, put_none, dem_none, dem_slot, dem_box, dem_ctr, dem_room, setBox_slot, setBox_room, setBox_ctr, setBox_box, ↓reduceIte, Nat.reduceEqDiff, Nat.reduceLT, Nat.reduceLeDiff, decide_true, List.filterMap_cons, List.filterMap_nil, Option.bind_some, Option.map_some, List.getElem?_cons_zero, List.getElem?_cons_succ, List.contains_cons, List.contains_nil, List.map_cons, List.map_nil, beq_self_eq_true, Bool.or_false, Bool.and_true, Nat.reduceBEq, Bool.false_eq_true, okR, callG, row9, frz9, frzOf_def, frz_nil, Bool.not_false, pureB, leaf, leafN, List.all_cons, List.all_nil, List.nil_append, List.cons_append, List.append_nil, List.length_nil, List.length_cons, dun, List.take_zero, List.drop_zero, List.take_succ_cons, List.drop_succ_cons, dcells, Nat.zero_add, Nat.reduceAdd, stepBox, Bool.and_false, and_self, ty3, dp3, bs44, ty32, fp32_3, zr32, bd32_24, fp51_1, pid0, Nat.le_refl, stepPtr]
    | (refine drW_intro (by kernel_rfl) ?_)
    | (refine gw_intro (fun h => ?_) (fun h => ?_) <;> (try simp only [beq_true, beq_false, Bool.not_eq_eq_eq_not, Bool.not_true, Bool.not_false, Bool.not_not, decide_eq_true_eq, decide_eq_false_iff_not, ge_iff_le, gt_iff_lt] at h)))
                refine hr _ ?_
                repeat' (first
    | simp only [*, put_slot, put_room, put_box, dem_box, setBox_box, endQ, endR, endV, rvars, rvar, room1, ↓reduceIte, List.map_nil, pureB, leaf, leafN, List.range_zero, and_true]
    | (refine drW_intro (by kernel_rfl) ?_)
    | (refine gw_intro (fun h => ?_) (fun h => ?_) <;> (try simp only [beq_true, beq_false, Bool.not_eq_eq_eq_not, Bool.not_true, Bool.not_false, Bool.not_not, decide_eq_true_eq, decide_eq_false_iff_not, ge_iff_le, gt_iff_lt] at h)))
                rcases hrm with ⟨hz, er⟩ | ⟨hz, er⟩ <;> rw [er]
                · have hz' : done = [] := hz
                  rw [if_pos hz']; rfl
                · have hz' : done ≠ [] := hz
                  rw [if_neg hz']; rfl
            · rw [decide_eq_false hend] at hE2
              rw [if_neg hend] at hinv'
              have hlt2 : headE ts e i < e := by omega
              have hB := block_L (hro.next (headE ts e i) (by omega)) hlt2 (by rw [headE_at hai2 hlt2]; decide)
              have hpos := behindF_pos (ks := kd ts) hlt2
              have e2 : ruleF ts e i = ⟨false, [], i, headE ts e i, true, headE ts e i + 1, (behindF (kd ts) e (headE ts e i)).2⟩ := rfl
              rw [e2] at hinv'
              generalize behindF (kd ts) e (headE ts e i) = q at *
              obtain ⟨nx, en⟩ := q
              generalize headE ts e i = hd2 at *
              have hpos1 : hd2 < nx ∧ nx ≤ e := ⟨hpos.1, hpos.2.1⟩
              have hin : i < nx := by omega
              have T := Hd.mk (show (done ++ [⟨false, [], i, hd2, true, hd2 + 1, en⟩]) ++ rulesF ts e top nx = all by rw [← hinv']; simp)
              have hap : done.map Ru.d ++ [.agg [.bool false, .str [], .int .i64 (i : Nat), .int .i64 (hd2 : Nat), .bool true, .int .i64 (hd2 + 1 : Nat), .int .i64 (en : Nat)]] = (done ++ [(⟨false, [], i, hd2, true, hd2 + 1, en⟩ : Ru)]).map Ru.d := snocRu done ⟨false, [], i, hd2, true, hd2 + 1, en⟩
              have G2 := Hd.mk (show a ≤ nx ∧ nx ≤ e by omega)
              have D2 := Hd.mk (show a + (done ++ [(⟨false, [], i, hd2, true, hd2 + 1, en⟩ : Ru)]).length ≤ nx by simp; omega)
              clear hinv hinv' h3k hie hai hdl hdl' hro hTL hall fin hpos e2 hU hh hr hx G D1 hend
              have hrm2 : st.room 8 = [.full] ∨ st.room 8 = [.own 32] := by
                rcases hrm with h | h
                · exact .inl h.2
                · exact .inr h.2
              clear hrm
              rcases (show top = false ∨ (top = true ∧ decide (kd ts i = 14) = false ∧ decide (kd ts i = 15) = false) from hcd3) with rfl | ⟨rfl, c1, c2⟩
              · clear hcd3
                rcases hrm2 with hrm2 | hrm2
                all_goals
                  repeat' (first
    | simp only [*, go_nil, go_seq, go_cond, go_block, go_blk, go_skip, go_region, go_ops_nil, go_ops, okG_some, okB_some, gwD_bool, gwD_undef, cwD_bool, gw_true, gw_false, guardG, opG, isPtr, inB, sval, stake, eats, eaters, get, cval, cval1, croom, St.taken, put_slot, put_room, put_box, put_ctr, put_none, dem_none, dem_slot, dem_box, dem_ctr, dem_room, dem_room1, setBox_slot, setBox_room, setBox_ctr, setBox_box, ↓reduceIte, Nat.reduceEqDiff, Nat.reduceLT, Nat.reduceLeDiff, reduceCtorEq, decide_true, List.filterMap_cons, List.filterMap_nil, Option.bind_some, Option.map_some, List.getElem?_cons_zero, List.getElem?_cons_succ, List.contains_cons, List.contains_nil, List.map_cons, List.map_nil, beq_self_eq_true, Bool.or_false, Bool.or_true, Bool.and_true, Nat.reduceBEq, Bool.false_eq_true, okR, callG, row9, frz9, frzOf_def, frz_nil, beq_true, Bool.not_false, pureB, leaf, leafN, List.all_cons, List.all_nil, List.nil_append, List.cons_append, List.append_nil, List.length_nil, List.length_cons, dun, List.take_zero, List.drop_zero, List.take_succ_cons, List.drop_succ_cons, dcells, Nat.zero_add, Nat.reduceAdd, stepBox, Bool.and_false, and_true, and_self, or_true, or_false, szOk_cons, List.cons.injEq, List.getElem?_toArray, ty3, dp3, bs44, ty32, dp32, fp32_3, fp32_5, fp32_6, zr32, ap26, bs26, bd32_24, fp51_1, pid0, Nat.le_refl, stepPtr]
    | (refine drW_intro (by kernel_rfl) ?_)
    | (refine gw_intro (fun h => ?_) (fun h => ?_) <;> (try simp only [beq_true, beq_false, Bool.not_eq_eq_eq_not, Bool.not_true, Bool.not_false, Bool.not_not, decide_eq_true_eq, decide_eq_false_iff_not, ge_iff_le, gt_iff_lt] at h)))
                  refine hn _ ⟨nx, done ++ [⟨false, [], i, hd2, true, hd2 + 1, en⟩], G2, ?_, ?_, ?_, ?_, .inr ⟨Hd.mk (by simp), ?_⟩, D2, T⟩ ?_
                  · simp only [*, put_slot, dem_slot, setBox_slot, ↓reduceIte, Nat.reduceEqDiff]
                  · simp only [*, put_box, dem_box, setBox_box, ↓reduceIte, Nat.reduceEqDiff]
                  · simp only [*, put_slot, dem_slot, setBox_slot, ↓reduceIte, Nat.reduceEqDiff]
                  · simp only [*, put_slot, ↓reduceIte]
                  · simp only [*, put_room, ↓reduceIte]
                  · simp only [*, put_box, dem_box, setBox_box, ↓reduceIte, Nat.reduceEqDiff]
                    omega
              · rw [c1] at j14
                rw [c2] at j15
                clear c1 c2 hcd3
                rcases hrm2 with hrm2 | hrm2
                all_goals
                  repeat' (first
    | simp only [*, go_nil, go_seq, go_cond, go_block, go_blk, go_skip, go_region, go_ops_nil, go_ops, okG_some, okB_some, gwD_bool, cwD_bool, gw_true, gw_false, guardG, opG, isPtr, inB, sval, stake, eats, eaters, get, cval, cval1, croom, St.taken, put_slot, put_room, put_box, put_ctr, put_none, dem_none, dem_slot, dem_box, dem_ctr, dem_room, dem_room1, setBox_slot, setBox_room, setBox_ctr, setBox_box, ↓reduceIte, Nat.reduceEqDiff, Nat.reduceLT, Nat.reduceLeDiff, reduceCtorEq, decide_true, List.filterMap_cons, List.filterMap_nil, Option.bind_some, Option.map_some, List.getElem?_cons_zero, List.getElem?_cons_succ, List.contains_cons, List.contains_nil, List.map_cons, List.map_nil, beq_self_eq_true, Bool.or_false, Bool.or_true, Bool.and_true, Nat.reduceBEq, Bool.false_eq_true, okR, callG, row9, frz9, frzOf_def, frz_nil, Bool.not_false, pureB, leaf, leafN, List.all_cons, List.all_nil, List.nil_append, List.cons_append, List.append_nil, List.length_nil, List.length_cons, dun, List.take_zero, List.drop_zero, List.take_succ_cons, List.drop_succ_cons, dcells, Nat.zero_add, Nat.reduceAdd, stepBox, Bool.and_false, and_true, and_self, or_true, or_false, szOk_cons, List.cons.injEq, List.getElem?_toArray, ty3, dp3, bs44, ty32, dp32, fp32_3, fp32_5, fp32_6, zr32, ap26, bs26, bd32_24, fp51_1, pid0, Nat.le_refl, stepPtr]
    | (refine drW_intro (by kernel_rfl) ?_)
    | (refine gw_intro (fun h => ?_) (fun h => ?_) <;> (try simp only [beq_true, beq_false, Bool.not_eq_eq_eq_not, Bool.not_true, Bool.not_false, Bool.not_not, decide_eq_true_eq, decide_eq_false_iff_not, ge_iff_le, gt_iff_lt] at h)))
                  refine hn _ ⟨nx, done ++ [⟨false, [], i, hd2, true, hd2 + 1, en⟩], G2, ?_, ?_, ?_, ?_, .inr ⟨Hd.mk (by simp), ?_⟩, D2, T⟩ ?_
                  · simp only [*, put_slot, dem_slot, setBox_slot, ↓reduceIte, Nat.reduceEqDiff]
                  · simp only [*, put_box, dem_box, setBox_box, ↓reduceIte, Nat.reduceEqDiff]
                  · simp only [*, put_slot, dem_slot, setBox_slot, ↓reduceIte, Nat.reduceEqDiff]
                  · simp only [*, put_slot, ↓reduceIte]
                  · simp only [*, put_room, ↓reduceIte]
                  · simp only [*, put_box, dem_box, setBox_box, ↓reduceIte, Nat.reduceEqDiff]
                    omega
end Go.Av
/- Chapter 19: rows of rules, of declarations, that are one; words. -/
set_option linter.unusedSimpArgs false
set_option linter.unusedVariables false
set_option linter.unusedSectionVars false
set_option maxRecDepth 100000
namespace Go.Av
open Go.Proofs Go.Proofs.Ytaldmffahmomoaa Go.RowKit
def leafK : D → Nat
  | .int _ _ => 0
  | .str _ => 1
  | .bool _ => 2
  | _ => 3
def okLeaf (P : Program) (t : TypeId) : Nat → Bool
  | 0 => isIntD (P.underlying t)
  | 1 => isStrD (P.underlying t)
  | 2 => isBoolD (P.underlying t)
  | _ => false
def okFs (P : Program) (ks : List Nat) : List Field → Bool
  | [] => true
  | f :: fs => !decide (f.name = "_") && (match ks[f.offset]? with | some k => okLeaf P f.type k | none => false) && okFs P ks fs
def okSt (P : Program) (t : TypeId) (ks : List Nat) : Bool := match P.underlying t with
  | some (.struct fs) => !(P.stoodInHeld t) && !(P.eqGuardType P.depth t) && okFs P ks fs.toList
  | _ => false
theorem eqLeaf_self {P : Program} {t : TypeId} {x : D} (h : okLeaf P t (leafK x) = true) : eqLeaf P t x x = some true := by
  cases x <;> simp only [leafK, okLeaf] at h
  case int k a => simp [eqLeaf, h]
  case str a => simp [eqLeaf, h]
  case bool a => simp [eqLeaf, h]
  all_goals cases h
theorem eqFs_self {P : Program} {xs : List D} : ∀ (fs : List Field), okFs P (xs.map leafK) fs = true → eqFs P xs xs fs = some true
  | [], _ => rfl
  | f :: fs, h => by
    simp only [okFs, Bool.and_eq_true, Bool.not_eq_true', decide_eq_false_iff_not] at h
    obtain ⟨⟨h1, h2⟩, h3⟩ := h
    rw [eqFs, if_neg h1]
    rw [List.getElem?_map] at h2
    cases hx : xs[f.offset]? with
    | none => rw [hx] at h2; cases h2
    | some x =>
      rw [hx] at h2
      simp only [Option.map_some] at h2
      simp only [eqLeaf_self h2]
      exact eqFs_self fs h3
theorem eqS_self {P : Program} {t : TypeId} {xs : List D} (h : okSt P t (xs.map leafK) = true) : dStructEq P t xs xs = some true := by
  unfold okSt at h
  unfold dStructEq
  split at h
  · rename_i fs hf
    rw [hf]
    simp only [Bool.and_eq_true, Bool.not_eq_true'] at h
    simp only
    rw [if_pos ⟨h.1.1, h.1.2⟩]
    exact eqFs_self _ h.2
  · cases h
theorem eq32 (x0 : Bool) (x1 : List UInt8) (x2 x3 : Int) (x4 : Bool) (x5 x6 : Int) : dStructEq Try.prog 32 [.bool x0, .str x1, .int .i64 x2, .int .i64 x3, .bool x4, .int .i64 x5, .int .i64 x6] [.bool x0, .str x1, .int .i64 x2, .int .i64 x3, .bool x4, .int .i64 x5, .int .i64 x6] = some true :=
  eqS_self (show okSt Try.prog 32 [2, 1, 0, 0, 2, 0, 0] = true by kernel_rfl)
theorem eq41 (x0 : List UInt8) (x1 x2 : Int) (x3 : Bool) : dStructEq Try.prog 41 [.str x0, .int .i64 x1, .int .i64 x2, .bool x3] [.str x0, .int .i64 x1, .int .i64 x2, .bool x3] = some true :=
  eqS_self (show okSt Try.prog 41 [1, 0, 0, 2] = true by kernel_rfl)
structure De where
  name : List UInt8
  fr : Nat
  to : Nat
  imp : Bool
def De.d (x : De) : D := .agg [.str x.name, .int .i64 (x.fr : Nat), .int .i64 (x.to : Nat), .bool x.imp]
theorem ru_at (rs : List Ru) (i : Nat) (h : i < rs.length) : ∃ r : Ru, (rs.map Ru.d).getD i .bad = .agg [.bool r.at_, .str r.name, .int .i64 (r.fr : Nat), .int .i64 (r.to : Nat), .bool r.has, .int .i64 (r.opn : Nat), .int .i64 (r.en : Nat)] :=
  ⟨rs[i], by simp [List.getD, h, Ru.d]⟩
theorem de_at (rs : List De) (i : Nat) (h : i < rs.length) : ∃ r : De, (rs.map De.d).getD i .bad = .agg [.str r.name, .int .i64 (r.fr : Nat), .int .i64 (r.to : Nat), .bool r.imp] :=
  ⟨rs[i], by simp [List.getD, h, De.d]⟩
theorem lenRu (rs : List Ru) : ((rs.map Ru.d).length : Int) = rs.length := by simp
theorem lenDe (rs : List De) : ((rs.map De.d).length : Int) = rs.length := by simp
set_option maxHeartbeats 4000000 in
theorem sameRules_L (rs : List Ru) (hl : rs.length ≤ 1000000) : callL Try.prog ext9 11 [.list (rs.map Ru.d), .list (rs.map Ru.d)] [] = some (.bool true, [.no], []) := by
  have lN := lenRu rs
  have hnn : ((rs.length : Int) != (rs.length : Int)) = false := by simp
  refine callK (m := 26) (res := [4]) (rs := [.tmp 4]) rfl Try.func11 rfl rfl rfl rfl rfl ?_
  repeat' (first
    | simp only [*, go_seq, go_cond, go_block, go_skip, go_loop, go_region, go_ops_nil, go_ops, okG_some, cwD_bool, gw_false, guardG, opG, isPtr, inB, sval, stake, eats, eaters, get, cval, cval1, croom, St.taken, put_slot, dem_none, entry_slot, ↓reduceIte, Nat.reduceEqDiff, Nat.reduceLT, reduceCtorEq, decide_true, List.filterMap_cons, List.filterMap_nil, Option.map_some, List.getD_cons_zero, List.getD_cons_succ, List.contains_cons, List.contains_nil, List.map_cons, List.map_nil, Bool.or_false, Nat.reduceBEq, Bool.false_eq_true, dbin, dIntBin, row9, frz9, frzOf_def, frz_nil, List.length_nil, Bool.and_false, len26]
    | (refine drW_intro (by kernel_rfl) ?_)
    | (refine gw_intro (fun h => ?_) (fun h => ?_) <;> (try simp only [beq_true, beq_false, Bool.not_eq_eq_eq_not, Bool.not_true, Bool.not_false, Bool.not_not, decide_eq_true_eq, decide_eq_false_iff_not, ge_iff_le, gt_iff_lt] at h)))
  refine loopH (fun st => ∃ i : Nat, i ≤ rs.length ∧ st.slot 0 = .list (rs.map Ru.d) ∧ st.slot 1 = .list (rs.map Ru.d) ∧ st.slot 5 = .int .i64 i) (fun st => rs.length - slotI st 5) ?_ ?_
  · refine ⟨0, Nat.zero_le _, ?_, ?_, ?_⟩
    all_goals simp only [*, put_slot, entry_slot, ↓reduceIte, Nat.reduceEqDiff, reduceCtorEq, List.getD_cons_zero, List.getD_cons_succ]
    all_goals rfl
  · rintro st K ⟨i, hi, h0, h1, h5⟩ hn hx hr
    by_cases h : i < rs.length
    · have g1 : (i : Int) < rs.length := by omega
      have hw := wrapS i (by omega)
      obtain ⟨r, hg⟩ := ru_at rs i h
      have hq := eq32 r.at_ r.name (r.fr : Nat) (r.to : Nat) r.has (r.opn : Nat) (r.en : Nat)
      repeat' (first
    | simp only [*, go_nil, go_seq, go_cond, go_block, go_blk, go_skip, go_region, go_draw, go_ops_nil, go_ops, go_dops1, go_dops, okG_some, cwD_bool, gw_true, gw_false, guardG, opG, opD, isPtr, isStore, inB, sval, stake, eats, eaters, get, cval, cval1, St.taken, put_slot, put_room, dem_none, ↓reduceIte, Nat.reduceEqDiff, Nat.reduceLT, reduceCtorEq, decide_true, List.filterMap_cons, List.filterMap_nil, Option.map_some, List.contains_cons, List.contains_nil, List.map_cons, List.map_nil, Bool.or_false, Nat.reduceBEq, Bool.false_eq_true, dbin, dIntBin, row9, frz9, frzOf_def, frz_nil, loadsOwn, Bool.not_true, List.length_nil, List.length_cons, dcells, Nat.zero_add, Nat.reduceAdd, Bool.and_false, Int.natCast_nonneg, Int.toNat_natCast, and_self, dp32, ia26, len26]
    | (refine drW_intro (by kernel_rfl) ?_)
    | (refine gw_intro (fun h => ?_) (fun h => ?_) <;> (try simp only [beq_true, beq_false, Bool.not_eq_eq_eq_not, Bool.not_true, Bool.not_false, Bool.not_not, decide_eq_true_eq, decide_eq_false_iff_not, ge_iff_le, gt_iff_lt] at h)))
      refine hn _ ⟨i + 1, h, ?_, ?_, ?_⟩ ?_
      · simp only [*, put_slot, dem_slot, ↓reduceIte, reduceCtorEq]
      · simp only [*, put_slot, dem_slot, ↓reduceIte, Nat.reduceEqDiff]
      · simp only [*, put_slot, ↓reduceIte]
      · simp only [slotI, *, put_slot, ↓reduceIte, Int.toNat_natCast]
        omega
    · have g1 : ¬ (i : Int) < rs.length := by omega
      repeat' (first
    | simp only [*, go_nil, go_seq, go_cond, go_exit, go_xcode, go_region, go_ops_nil, go_ops, okG_some, cwD_bool, gw_false, guardG, opG, isPtr, inB, sval, stake, eats, eaters, get, St.taken, put_slot, dem_none, ↓reduceIte, Nat.reduceEqDiff, Nat.reduceLT, reduceCtorEq, decide_true, decide_false, List.filterMap_cons, List.filterMap_nil, Option.map_some, List.contains_cons, List.contains_nil, List.map_cons, List.map_nil, Bool.or_false, Nat.reduceBEq, Bool.false_eq_true, dbin, dIntBin, row9, frz9, frzOf_def, frz_nil, Bool.and_false, len26]
    | (refine drW_intro (by kernel_rfl) ?_)
    | (refine gw_intro (fun h => ?_) (fun h => ?_) <;> (try simp only [beq_true, beq_false, Bool.not_eq_eq_eq_not, Bool.not_true, Bool.not_false, Bool.not_not, decide_eq_true_eq, decide_eq_false_iff_not, ge_iff_le, gt_iff_lt] at h)))
      refine hx _ _ ?_
      repeat' (first
    | simp only [*, go_seq, go_retc, go_xblk, go_region, go_ops_nil, go_ops, okG_some, guardG, opG, inB, sval, stake, eats, eaters, get, cval, cval1, croom, put_slot, put_room, put_box, dem_none, endQ, endR, endV, rvars, rvar, room1, ↓reduceIte, Nat.reduceLT, decide_true, List.filterMap_cons, List.filterMap_nil, List.contains_cons, List.contains_nil, List.map_nil, Bool.or_false, Bool.false_eq_true, row9, frz9, frzOf_def, frz_nil, pureB, leaf, leafN, List.take_nil, List.range_zero, and_self]
    | (refine drW_intro (by kernel_rfl) ?_)
    | (refine gw_intro (fun h => ?_) (fun h => ?_) <;> (try simp only [beq_true, beq_false, Bool.not_eq_eq_eq_not, Bool.not_true, Bool.not_false, Bool.not_not, decide_eq_true_eq, decide_eq_false_iff_not, ge_iff_le, gt_iff_lt] at h)))
set_option maxHeartbeats 4000000 in
theorem sameDecls_L (rs : List De) (hl : rs.length ≤ 1000000) : callL Try.prog ext9 14 [.list (rs.map De.d), .list (rs.map De.d)] [] = some (.bool true, [.no], []) := by
  have lN := lenDe rs
  have hnn : ((rs.length : Int) != (rs.length : Int)) = false := by simp
  refine callK (m := 26) (res := [4]) (rs := [.tmp 4]) rfl Try.func14 rfl rfl rfl rfl rfl ?_
  repeat' (first
    | simp only [*, go_seq, go_cond, go_block, go_skip, go_loop, go_region, go_ops_nil, go_ops, okG_some, cwD_bool, gw_false, guardG, opG, isPtr, inB, sval, stake, eats, eaters, get, cval, cval1, croom, St.taken, put_slot, dem_none, entry_slot, ↓reduceIte, Nat.reduceEqDiff, Nat.reduceLT, reduceCtorEq, decide_true, List.filterMap_cons, List.filterMap_nil, Option.map_some, List.getD_cons_zero, List.getD_cons_succ, List.contains_cons, List.contains_nil, List.map_cons, List.map_nil, Bool.or_false, Nat.reduceBEq, Bool.false_eq_true, dbin, dIntBin, row9, frz9, frzOf_def, frz_nil, List.length_nil, Bool.and_false, len35]
    | (refine drW_intro (by kernel_rfl) ?_)
    | (refine gw_intro (fun h => ?_) (fun h => ?_) <;> (try simp only [beq_true, beq_false, Bool.not_eq_eq_eq_not, Bool.not_true, Bool.not_false, Bool.not_not, decide_eq_true_eq, decide_eq_false_iff_not, ge_iff_le, gt_iff_lt] at h)))
  refine loopH (fun st => ∃ i : Nat, i ≤ rs.length ∧ st.slot 0 = .list (rs.map De.d) ∧ st.slot 1 = .list (rs.map De.d) ∧ st.slot 5 = .int .i64 i) (fun st => rs.length - slotI st 5) ?_ ?_
  · refine ⟨0, Nat.zero_le _, ?_, ?_, ?_⟩
    all_goals simp only [*, put_slot, entry_slot, ↓reduceIte, Nat.reduceEqDiff, reduceCtorEq, List.getD_cons_zero, List.getD_cons_succ]
    all_goals rfl
  · rintro st K ⟨i, hi, h0, h1, h5⟩ hn hx hr
    by_cases h : i < rs.length
    · have g1 : (i : Int) < rs.length := by omega
      have hw := wrapS i (by omega)
      obtain ⟨r, hg⟩ := de_at rs i h
      have hq := eq41 r.name (r.fr : Nat) (r.to : Nat) r.imp
      repeat' (first
    | simp only [*, go_nil, go_seq, go_cond, go_block, go_blk, go_skip, go_region, go_draw, go_ops_nil, go_ops, go_dops1, go_dops, okG_some, cwD_bool, gw_true, gw_false, guardG, opG, opD, isPtr, isStore, inB, sval, stake, eats, eaters, get, cval, cval1, St.taken, put_slot, put_room, dem_none, ↓reduceIte, Nat.reduceEqDiff, Nat.reduceLT, reduceCtorEq, decide_true, List.filterMap_cons, List.filterMap_nil, Option.map_some, List.contains_cons, List.contains_nil, List.map_cons, List.map_nil, Bool.or_false, Nat.reduceBEq, Bool.false_eq_true, dbin, dIntBin, row9, frz9, frzOf_def, frz_nil, loadsOwn, Bool.not_true, List.length_nil, List.length_cons, dcells, Nat.zero_add, Nat.reduceAdd, Bool.and_false, Int.natCast_nonneg, Int.toNat_natCast, and_self, dp41, ia35, len35]
    | (refine drW_intro (by kernel_rfl) ?_)
    | (refine gw_intro (fun h => ?_) (fun h => ?_) <;> (try simp only [beq_true, beq_false, Bool.not_eq_eq_eq_not, Bool.not_true, Bool.not_false, Bool.not_not, decide_eq_true_eq, decide_eq_false_iff_not, ge_iff_le, gt_iff_lt] at h)))
      refine hn _ ⟨i + 1, h, ?_, ?_, ?_⟩ ?_
      · simp only [*, put_slot, dem_slot, ↓reduceIte, reduceCtorEq]
      · simp only [*, put_slot, dem_slot, ↓reduceIte, Nat.reduceEqDiff]
      · simp only [*, put_slot, ↓reduceIte]
      · simp only [slotI, *, put_slot, ↓reduceIte, Int.toNat_natCast]
        omega
    · have g1 : ¬ (i : Int) < rs.length := by omega
      repeat' (first
    | simp only [*, go_nil, go_seq, go_cond, go_exit, go_xcode, go_region, go_ops_nil, go_ops, okG_some, cwD_bool, gw_false, guardG, opG, isPtr, inB, sval, stake, eats, eaters, get, St.taken, put_slot, dem_none, ↓reduceIte, Nat.reduceEqDiff, Nat.reduceLT, reduceCtorEq, decide_true, decide_false, List.filterMap_cons, List.filterMap_nil, Option.map_some, List.contains_cons, List.contains_nil, List.map_cons, List.map_nil, Bool.or_false, Nat.reduceBEq, Bool.false_eq_true, dbin, dIntBin, row9, frz9, frzOf_def, frz_nil, Bool.and_false, len35]
    | (refine drW_intro (by kernel_rfl) ?_)
    | (refine gw_intro (fun h => ?_) (fun h => ?_) <;> (try simp only [beq_true, beq_false, Bool.not_eq_eq_eq_not, Bool.not_true, Bool.not_false, Bool.not_not, decide_eq_true_eq, decide_eq_false_iff_not, ge_iff_le, gt_iff_lt] at h)))
      refine hx _ _ ?_
      repeat' (first
    | simp only [*, go_seq, go_retc, go_xblk, go_region, go_ops_nil, go_ops, okG_some, guardG, opG, inB, sval, stake, eats, eaters, get, cval, cval1, croom, put_slot, put_room, put_box, dem_none, endQ, endR, endV, rvars, rvar, room1, ↓reduceIte, Nat.reduceLT, decide_true, List.filterMap_cons, List.filterMap_nil, List.contains_cons, List.contains_nil, List.map_nil, Bool.or_false, Bool.false_eq_true, row9, frz9, frzOf_def, frz_nil, pureB, leaf, leafN, List.take_nil, List.range_zero, and_self]
    | (refine drW_intro (by kernel_rfl) ?_)
    | (refine gw_intro (fun h => ?_) (fun h => ?_) <;> (try simp only [beq_true, beq_false, Bool.not_eq_eq_eq_not, Bool.not_true, Bool.not_false, Bool.not_not, decide_eq_true_eq, decide_eq_false_iff_not, ge_iff_le, gt_iff_lt] at h)))
theorem same_L (a b : List UInt8) (ha : a.length < 1099511627776) (hb : b.length < 1099511627776) : callL Try.prog ext9 45 [.str a, .str b] [] = some (.bool (lowB a == lowB b), [.no], []) := by
  refine callK (m := 10) (res := [4]) (rs := [.tmp 4]) rfl Try.func45 rfl rfl rfl rfl rfl ?_
  have h1 := lower_L a ha
  have h2 := lower_L b hb
  repeat' (first
    | simp only [*, go_seq, go_retc, go_region, go_ops_nil, go_ops, okG_some, guardG, opG, isPtr, inB, sval, stake, eats, eaters, get, cval, cval1, croom, St.taken, put_slot, put_room, put_box, dem_none, dem_box, entry_slot, entry_box, endQ, endR, endV, rvars, rvar, room1, ↓reduceIte, Nat.reduceEqDiff, Nat.reduceLT, reduceCtorEq, decide_true, List.filterMap_cons, List.filterMap_nil, Option.map_some, List.getD_cons_zero, List.getD_cons_succ, List.contains_cons, List.contains_nil, List.map_cons, List.map_nil, beq_self_eq_true, Bool.or_false, Bool.and_true, Nat.reduceBEq, Bool.false_eq_true, dbin, okR, callG, row9, frz9, frzOf_def, frz_nil, pureB, leaf, leafN, List.all_cons, List.all_nil, List.nil_append, List.append_nil, List.take_nil, List.range_zero, List.length_nil, List.getElem?_nil, Bool.and_false, and_self, dStrBin]
    | (refine drW_intro (by kernel_rfl) ?_)
    | (refine gw_intro (fun h => ?_) (fun h => ?_) <;> (try simp only [beq_true, beq_false, Bool.not_eq_eq_eq_not, Bool.not_true, Bool.not_false, Bool.not_not, decide_eq_true_eq, decide_eq_false_iff_not, ge_iff_le, gt_iff_lt] at h)))
def preB (p s : List UInt8) : Bool := decide (p.length ≤ s.length) && (s.take p.length == p)
theorem pre65_L (s p : List UInt8) : callL Try.prog ext9 65 [.str s, .str p] [] = some (.bool (preB p s), [.no], []) := by
  refine callK (m := 18) (res := [4]) (rs := [.tmp 4]) rfl Try.func65 rfl rfl rfl rfl rfl ?_
  unfold preB
  by_cases h : p.length ≤ s.length
  · have h' : (p.length : Int) ≤ s.length := by omega
    repeat' (first
    | simp only [*, go_seq, go_retc, go_region, go_ops_nil, go_ops, okG_some, gwD_bool, gw_true, guardG, opG, isPtr, inB, sval, stake, eats, eaters, get, cval, cval1, croom, St.taken, put_slot, put_room, put_box, dem_none, dem_box, setBox_slot, setBox_room, entry_slot, entry_room, entry_box, endQ, endR, endV, rvars, rvar, room1, ↓reduceIte, Nat.reduceEqDiff, Nat.reduceLT, reduceCtorEq, decide_true, List.filterMap_cons, List.filterMap_nil, Option.bind_some, Option.map_some, Option.map_none, List.getElem?_cons_zero, List.getElem?_cons_succ, List.getD_cons_zero, List.getD_cons_succ, List.contains_cons, List.contains_nil, List.map_cons, List.map_nil, beq_self_eq_true, Bool.or_false, Bool.true_and, Nat.reduceBEq, Bool.false_eq_true, dbin, dIntBin, okR, callG, row9, frz9, frzOf_def, frz_nil, pureB, leaf, leafN, List.take_nil, List.range_zero, List.length_nil, List.getElem?_nil, List.drop_zero, Bool.and_false, Int.natCast_nonneg, Int.toNat_natCast, and_self, dopt, dbound, ge_iff_le, dStrBin, len9, sl9, stepPtr]
    | (refine drW_intro (by kernel_rfl) ?_)
    | (refine gw_intro (fun h => ?_) (fun h => ?_) <;> (try simp only [beq_true, beq_false, Bool.not_eq_eq_eq_not, Bool.not_true, Bool.not_false, Bool.not_not, decide_eq_true_eq, decide_eq_false_iff_not, ge_iff_le, gt_iff_lt] at h)))
  · have h' : ¬ (p.length : Int) ≤ s.length := by omega
    repeat' (first
    | simp only [*, go_seq, go_retc, go_region, go_ops_nil, go_ops, okG_some, gwD_bool, gw_false, guardG, opG, isPtr, inB, sval, stake, eats, eaters, get, cval, cval1, croom, St.taken, put_slot, put_room, put_box, dem_none, dem_box, setBox_slot, setBox_room, entry_slot, entry_room, entry_box, endQ, endR, endV, rvars, rvar, room1, ↓reduceIte, Nat.reduceEqDiff, Nat.reduceLT, reduceCtorEq, decide_true, decide_false, List.filterMap_cons, List.filterMap_nil, Option.bind_some, Option.map_some, Option.map_none, List.getElem?_cons_zero, List.getElem?_cons_succ, List.getD_cons_zero, List.getD_cons_succ, List.contains_cons, List.contains_nil, List.map_cons, List.map_nil, beq_self_eq_true, Bool.or_false, Nat.reduceBEq, Bool.false_eq_true, dbin, dIntBin, okR, callG, row9, frz9, frzOf_def, frz_nil, beq_true, pureB, leaf, leafN, List.take_nil, List.range_zero, List.length_nil, List.getElem?_nil, Bool.and_false, Bool.false_and, and_self, ge_iff_le, dStrBin, len9, stepPtr]
    | (refine drW_intro (by kernel_rfl) ?_)
    | (refine gw_intro (fun h => ?_) (fun h => ?_) <;> (try simp only [beq_true, beq_false, Bool.not_eq_eq_eq_not, Bool.not_true, Bool.not_false, Bool.not_not, decide_eq_true_eq, decide_eq_false_iff_not, ge_iff_le, gt_iff_lt] at h)))
theorem pre_L (s p : List UInt8) : callL Try.prog ext9 44 [.str s, .str p] [] = some (.bool (preB p s), [.no], []) := by
  refine callK (m := 8) (res := [4]) (rs := [.tmp 4]) rfl Try.func44 rfl rfl rfl rfl rfl ?_
  have h1 := pre65_L s p
  repeat' (first
    | simp only [*, go_seq, go_retc, go_region, go_ops_nil, go_ops, okG_some, guardG, opG, isPtr, inB, sval, stake, eats, eaters, get, cval, cval1, croom, St.taken, put_slot, put_room, put_box, dem_none, dem_box, entry_slot, entry_box, endQ, endR, endV, rvars, rvar, room1, ↓reduceIte, Nat.reduceEqDiff, Nat.reduceLT, reduceCtorEq, decide_true, List.filterMap_cons, List.filterMap_nil, List.getD_cons_zero, List.getD_cons_succ, List.contains_cons, List.contains_nil, List.map_cons, List.map_nil, beq_self_eq_true, Bool.or_false, Bool.and_true, Nat.reduceBEq, Bool.false_eq_true, okR, callG, row9, frz9, frzOf_def, frz_nil, pureB, leaf, leafN, List.all_cons, List.all_nil, List.nil_append, List.append_nil, List.take_nil, List.range_zero, List.length_nil, List.getElem?_nil, List.take_succ_cons, Bool.and_false, and_self]
    | (refine drW_intro (by kernel_rfl) ?_)
    | (refine gw_intro (fun h => ?_) (fun h => ?_) <;> (try simp only [beq_true, beq_false, Bool.not_eq_eq_eq_not, Bool.not_true, Bool.not_false, Bool.not_not, decide_eq_true_eq, decide_eq_false_iff_not, ge_iff_le, gt_iff_lt] at h)))
end Go.Av
/- Chapter 19: a declaration: the program's text. -/
set_option linter.unusedSimpArgs false
set_option linter.unusedVariables false
set_option linter.unusedSectionVars false
set_option maxRecDepth 100000
namespace Go.Av
open Go.Proofs Go.Proofs.Ytaldmffahmomoaa Go.RowKit
def wordI : List UInt8 := [105, 109, 112, 111, 114, 116, 97, 110, 116]
def dashes : List UInt8 := [45, 45]
def nameF (t : List UInt8) : List UInt8 := if preB dashes t = true then t else lowB t
/-- Behind the head of a declaration, told by what stands at its end. -/
def declE (name : List UInt8) (q p z : Nat × Nat) (k1 k9 : Int) (t1 t9 : List UInt8) : De × Bool :=
  if q.2 ≤ q.1 then (⟨name, q.1, q.2, false⟩, true) else if k1 ≠ 1 then (⟨name, q.1, q.2, false⟩, true) else if lowB t1 ≠ wordI then (⟨name, q.1, q.2, false⟩, true)
  else if p.2 ≤ p.1 then (⟨name, q.1, q.2, false⟩, true) else if k9 ≠ 9 then (⟨name, q.1, q.2, false⟩, true) else if t9 ≠ [33] then (⟨name, q.1, q.2, false⟩, true) else (⟨name, z.1, z.2, true⟩, true)
def declQ (ts : List Tk) (to k : Nat) : Nat × Nat := trimF ts ((k + 1 : Nat) : Int) (to : Nat)
def declP (ts : List Tk) (q : Nat × Nat) : Nat × Nat := trimF ts (q.1 : Nat) ((q.2 - 1 : Nat) : Int)
def declZ (ts : List Tk) (q p : Nat × Nat) : Nat × Nat := trimF ts (q.1 : Nat) ((p.2 - 1 : Nat) : Int)
def declG (ts : List Tk) (fr : Nat) (q : Nat × Nat) : De × Bool :=
  declE (nameF (tx ts fr)) q (declP ts q) (declZ ts q (declP ts q)) (kd ts (q.2 - 1)) (kd ts ((declP ts q).2 - 1)) (tx ts (q.2 - 1)) (tx ts ((declP ts q).2 - 1))
/-- The declaration that a part is; whether it is one. -/
def declF (ts : List Tk) (fr to : Nat) : De × Bool :=
  if isB ts (spF (kd ts) to (fr + 1)) to 16 = true then declG ts fr (declQ ts to (spF (kd ts) to (fr + 1))) else (⟨[], 0, 0, false⟩, false)
theorem trimF_le (ts : List Tk) (fr to : Int) : (trimF ts fr to).2 ≤ ts.length ∨ (trimF ts fr to).2 ≤ (trimF ts fr to).1 := by
  have h1 := cutF_le ts fr to
  have h2 := cutF_ge ts fr to
  unfold trimF
  have h3 := spF_ge (kd ts) (cutF ts fr to).2 (cutF ts fr to).1
  split
  · exact .inr (Nat.le_refl _)
  · have h4 := (bkF_pos (ks := kd ts) (s := spF (kd ts) (cutF ts fr to).2 (cutF ts fr to).1) (e := (cutF ts fr to).2)).1
    refine .inl ?_
    show bkF _ _ _ ≤ _
    omega
theorem wM (n : Nat) (h : 0 < n) (h2 : n ≤ 1000000000) : IntKind.i64.wrap ((n : Int) - 1) = ((n - 1 : Nat) : Int) := by rw [wrap64 _ (by omega) (by omega)]; omega
theorem lowWord : lowB wordI = wordI := by decide
set_option maxHeartbeats 32000000 in
theorem decl_L {ts : List Tk} (hT : TL ts) {fr to : Nat} (ht : to ≤ ts.length) (hf : fr < to) : callL Try.prog ext9 34 [Tks ts, .int .i64 (fr : Nat), .int .i64 (to : Nat)] [] =
    some (.tuple [(declF ts fr to).1.d, .bool (declF ts fr to).2], [.no, .no], []) := by
  have hl := hT.len
  have lN := TkLen ts
  have hro : RO ts (fr + 1) to := ⟨hl, .inl ht⟩
  have hw1 := wrapS fr (by omega)
  have hB := blanks_L hro
  have hsp := spF_ge (kd ts) to (fr + 1)
  unfold declF
  generalize spF (kd ts) to (fr + 1) = k at *
  have hI := isK_L (hro.next k hsp.1) 16
  cases hb : isB ts k to 16 with
  | false =>
    rw [hb] at hI
    rw [if_neg (by simp)]
    unfold De.d
    clear hro hT
    refine callK (m := 121) (res := [7]) (rs := [.cell 6 41, .tmp 7]) rfl Try.func34 rfl rfl rfl rfl rfl ?_
    repeat' (first
    | simp only [*, go_seq, go_cond, go_retc, go_region, go_ops_nil, go_ops, okG_some, okB_some, cwD_bool, gw_true, guardG, opG, isPtr, inB, sval, stake, eats, eaters, get, cval, cval1, croom, St.taken, put_slot, put_room, put_box, put_ctr, put_none, dem_none, dem_slot, dem_box, setBox_slot, setBox_room, setBox_box, entry_slot, entry_box, entry_ctr, endQ, endR, endV, rvars, rvar, room1, ↓reduceIte, Nat.reduceEqDiff, Nat.reduceLT, reduceCtorEq, decide_true, List.filterMap_cons, List.filterMap_nil, Option.map_some, List.getD_cons_zero, List.getD_cons_succ, List.contains_cons, List.contains_nil, List.map_cons, List.map_nil, Bool.or_false, Bool.and_true, Nat.reduceBEq, Bool.false_eq_true, dbin, dIntBin, row9, frz9, frzOf_def, frz_nil, Bool.not_false, pureB, leaf, leafN, List.all_cons, List.all_nil, List.nil_append, List.append_nil, List.take_nil, List.range_zero, List.length_nil, List.length_cons, dun, List.getElem?_nil, List.take_zero, List.drop_zero, List.drop_succ_cons, dcells, Nat.zero_add, Nat.reduceAdd, stepBox, Bool.and_false, and_true, and_self, ty41, dp41, zr41, ty51, bd51, pid0, Nat.le_refl, stepPtr]
    | (refine drW_intro (by kernel_rfl) ?_)
    | (refine gw_intro (fun h => ?_) (fun h => ?_) <;> (try simp only [beq_true, beq_false, Bool.not_eq_eq_eq_not, Bool.not_true, Bool.not_false, Bool.not_not, decide_eq_true_eq, decide_eq_false_iff_not, ge_iff_le, gt_iff_lt] at h)))
    all_goals rfl
  | true =>
    rw [hb] at hI
    rw [if_pos rfl]
    have hkt := (isB_lt hb).1
    have hw2 := wrapS k (by omega)
    have g1 : (fr : Int) < ts.length := by omega
    have hg1 := tk_at ts fr (by omega)
    have hQ : callL Try.prog ext9 19 [Tks ts, .int .i64 ((k + 1 : Nat) : Int), .int .i64 (to : Nat)] [] = some (.tuple [.int .i64 ((declQ ts to k).1 : Nat), .int .i64 ((declQ ts to k).2 : Nat)], [.no, .no], []) := trim_L ts hl _ _
    have hqle : (declQ ts to k).2 ≤ ts.length ∨ (declQ ts to k).2 ≤ (declQ ts to k).1 := trimF_le ts _ _
    have hPre := pre_L (tx ts fr) dashes
    have hLow := lower_L (tx ts fr) (by have := hT.txt fr; omega)
    generalize declQ ts to k = q at *
    obtain ⟨q1, q2⟩ := q
    have hPre' : callL Try.prog ext9 44 [.str (tx ts fr), .str [45, 45]] [] = some (.bool (preB dashes (tx ts fr)), [.no], []) := hPre
    have hnm : (preB dashes (tx ts fr) = true ∧ nameF (tx ts fr) = tx ts fr) ∨ (preB dashes (tx ts fr) = false ∧ nameF (tx ts fr) = lowB (tx ts fr)) := by
      unfold nameF
      cases preB dashes (tx ts fr) with
      | true => exact .inl ⟨rfl, if_pos rfl⟩
      | false => exact .inr ⟨rfl, if_neg (by simp)⟩
    clear hPre hb hro
    unfold declG declE
    dsimp only at *
    by_cases c1 : q2 ≤ q1
    · rw [if_pos c1]
      have c1' : (q2 : Int) ≤ q1 := by omega
      clear hT hqle c1
      unfold De.d
      rcases hnm with ⟨n1, n2⟩ | ⟨n1, n2⟩
      all_goals
        rw [n1] at hPre'
        rw [n2]
        clear n1 n2
        refine callK (m := 121) (res := [7]) (rs := [.cell 6 41, .tmp 7]) rfl Try.func34 rfl rfl rfl rfl rfl ?_
        repeat' (first
    | simp only [*, go_seq, go_cond, go_skip, go_retc, go_region, go_ops_nil, go_ops, okG_some, okB_some, gwD_bool, cwD_bool, gw_true, gw_false, guardG, opG, isPtr, inB, sval, stake, eats, eaters, get, cval, cval1, croom, St.taken, put_slot, put_room, put_box, put_ctr, put_none, dem_none, dem_slot, dem_box, dem_room, dem_room1, setBox_slot, setBox_room, setBox_box, entry_slot, entry_room, entry_box, entry_ctr, endQ, endR, endV, rvars, rvar, room1, ↓reduceIte, Nat.reduceEqDiff, Nat.reduceLT, Nat.reduceLeDiff, reduceCtorEq, decide_true, List.filterMap_cons, List.filterMap_nil, Option.bind_some, Option.map_some, List.getElem?_cons_zero, List.getElem?_cons_succ, List.getD_cons_zero, List.getD_cons_succ, List.contains_cons, List.contains_nil, List.map_cons, List.map_nil, beq_self_eq_true, Bool.or_false, Bool.or_true, Bool.and_true, Nat.reduceBEq, Bool.false_eq_true, dbin, dIntBin, okR, callG, row9, frz9, frzOf_def, frz_nil, beq_false, Bool.not_true, Bool.not_false, pureB, leaf, leafN, List.all_cons, List.all_nil, List.nil_append, List.cons_append, List.append_nil, List.take_nil, List.range_zero, List.length_nil, List.length_cons, dun, List.getElem?_nil, List.take_zero, List.drop_zero, List.take_succ_cons, List.drop_succ_cons, dcells, Nat.zero_add, Nat.reduceAdd, stepBox, Bool.and_false, Int.natCast_nonneg, Int.toNat_natCast, and_self, Nat.add_zero, dStrBin, ty3, ty9, dp3, dp9, fa56_3, ia24, ty41, dp41, fp41_0, fp41_1, fp41_2, zr41, ty51, fp51_1, bd51, pid0, Nat.le_refl, stepPtr]
    | (refine drW_intro (by kernel_rfl) ?_)
    | (refine gw_intro (fun h => ?_) (fun h => ?_) <;> (try simp only [beq_true, beq_false, Bool.not_eq_eq_eq_not, Bool.not_true, Bool.not_false, Bool.not_not, decide_eq_true_eq, decide_eq_false_iff_not, ge_iff_le, gt_iff_lt] at h)))
    · rw [if_neg c1]
      have c1' : ¬ (q2 : Int) ≤ q1 := by omega
      have hq : 0 < q2 ∧ q2 ≤ ts.length := by omega
      have hwq := wM q2 hq.1 (by omega)
      have g2 : ((q2 - 1 : Nat) : Int) < ts.length := by omega
      have hg2 := tk_at ts (q2 - 1) (by omega)
      by_cases c2 : kd ts (q2 - 1) = 1
      · rw [if_neg (not_not_intro c2)]
        have b2 : (kd ts (q2 - 1) != 1) = false := by rw [c2]; rfl
        have hS := same_L (tx ts (q2 - 1)) wordI (by have := hT.txt (q2 - 1); omega) (by decide)
        rw [lowWord] at hS
        have hS' : callL Try.prog ext9 45 [.str (tx ts (q2 - 1)), .str [105, 109, 112, 111, 114, 116, 97, 110, 116]] [] = some (.bool (lowB (tx ts (q2 - 1)) == wordI), [.no], []) := hS
        clear hS
        by_cases c3 : lowB (tx ts (q2 - 1)) = wordI
        · rw [if_neg (not_not_intro c3)]
          have b3 : (lowB (tx ts (q2 - 1)) == wordI) = true := beq_iff_eq.2 c3
          rw [b3] at hS'
          have hP : callL Try.prog ext9 19 [Tks ts, .int .i64 (q1 : Nat), .int .i64 ((q2 - 1 : Nat) : Int)] [] = some (.tuple [.int .i64 ((declP ts (q1, q2)).1 : Nat), .int .i64 ((declP ts (q1, q2)).2 : Nat)], [.no, .no], []) := trim_L ts hl _ _
          have hple : (declP ts (q1, q2)).2 ≤ ts.length ∨ (declP ts (q1, q2)).2 ≤ (declP ts (q1, q2)).1 := trimF_le ts _ _
          generalize declP ts (q1, q2) = p at *
          obtain ⟨p1, p2⟩ := p
          dsimp only at *
          clear b3 c3
          by_cases c4 : p2 ≤ p1
          · rw [if_pos c4]
            have c4' : ¬ (p2 : Int) > p1 := by omega
            clear hT hqle c1 c2 c4 hple
            unfold De.d
            rcases hnm with ⟨n1, n2⟩ | ⟨n1, n2⟩
            all_goals
              rw [n1] at hPre'
              rw [n2]
              clear n1 n2
              refine callK (m := 121) (res := [7]) (rs := [.cell 6 41, .tmp 7]) rfl Try.func34 rfl rfl rfl rfl rfl ?_
              repeat' (first
    | simp only [*, go_seq, go_cond, go_skip, go_retc, go_region, go_ops_nil, go_ops, okG_some, okB_some, gwD_bool, cwD_bool, gw_true, gw_false, guardG, opG, isPtr, inB, sval, stake, eats, eaters, get, cval, cval1, croom, St.taken, put_slot, put_room, put_box, put_ctr, put_none, dem_none, dem_slot, dem_box, dem_room, dem_room1, setBox_slot, setBox_room, setBox_box, entry_slot, entry_room, entry_box, entry_ctr, endQ, endR, endV, rvars, rvar, room1, ↓reduceIte, Nat.reduceEqDiff, Nat.reduceLT, Nat.reduceLeDiff, reduceCtorEq, decide_true, decide_false, List.filterMap_cons, List.filterMap_nil, Option.bind_some, Option.map_some, List.getElem?_cons_zero, List.getElem?_cons_succ, List.getD_cons_zero, List.getD_cons_succ, List.contains_cons, List.contains_nil, List.map_cons, List.map_nil, beq_self_eq_true, Bool.or_false, Bool.or_true, Bool.and_true, Nat.reduceBEq, Bool.false_eq_true, dbin, dIntBin, okR, callG, row9, frz9, frzOf_def, frz_nil, beq_true, Bool.not_true, Bool.not_false, pureB, leaf, leafN, List.all_cons, List.all_nil, List.nil_append, List.cons_append, List.append_nil, List.take_nil, List.range_zero, List.length_nil, List.length_cons, dun, List.getElem?_nil, List.take_zero, List.drop_zero, List.take_succ_cons, List.drop_succ_cons, dcells, Nat.zero_add, Nat.reduceAdd, stepBox, Bool.and_false, Int.natCast_nonneg, Int.toNat_natCast, and_self, Nat.add_zero, gt_iff_lt, dStrBin, ty3, ty9, dp3, dp9, fa56_0, fa56_3, ia24, ty41, dp41, fp41_0, fp41_1, fp41_2, zr41, ty51, fp51_1, bd51, pid0, Nat.le_refl, stepPtr]
    | (refine drW_intro (by kernel_rfl) ?_)
    | (refine gw_intro (fun h => ?_) (fun h => ?_) <;> (try simp only [beq_true, beq_false, Bool.not_eq_eq_eq_not, Bool.not_true, Bool.not_false, Bool.not_not, decide_eq_true_eq, decide_eq_false_iff_not, ge_iff_le, gt_iff_lt] at h)))
          · rw [if_neg c4]
            have c4' : (p2 : Int) > p1 := by omega
            have hp : 0 < p2 ∧ p2 ≤ ts.length := by omega
            have hwp := wM p2 hp.1 (by omega)
            have g3 : ((p2 - 1 : Nat) : Int) < ts.length := by omega
            have hg3 := tk_at ts (p2 - 1) (by omega)
            by_cases c5 : kd ts (p2 - 1) = 9
            · rw [if_neg (not_not_intro c5)]
              have b5 : (kd ts (p2 - 1) == 9) = true := beq_iff_eq.2 c5
              by_cases c6 : tx ts (p2 - 1) = [33]
              · rw [if_neg (not_not_intro c6)]
                have b6 : (tx ts (p2 - 1) == [33]) = true := beq_iff_eq.2 c6
                have hZ : callL Try.prog ext9 19 [Tks ts, .int .i64 (q1 : Nat), .int .i64 ((p2 - 1 : Nat) : Int)] [] = some (.tuple [.int .i64 ((declZ ts (q1, q2) (p1, p2)).1 : Nat), .int .i64 ((declZ ts (q1, q2) (p1, p2)).2 : Nat)], [.no, .no], []) := trim_L ts hl _ _
                generalize declZ ts (q1, q2) (p1, p2) = z at *
                obtain ⟨z1, z2⟩ := z
                dsimp only at *
                clear hT hqle c1 c2 c4 hple c5 c6
                unfold De.d
                rcases hnm with ⟨n1, n2⟩ | ⟨n1, n2⟩
                all_goals
                  rw [n1] at hPre'
                  rw [n2]
                  clear n1 n2
                  refine callK (m := 121) (res := [7]) (rs := [.cell 6 41, .tmp 7]) rfl Try.func34 rfl rfl rfl rfl rfl ?_
                  repeat' (first
    | simp only [*, go_seq, go_cond, go_skip, go_retc, go_region, go_ops_nil, go_ops, okG_some, okB_some, gwD_bool, cwD_bool, gw_true, gw_false, guardG, opG, isPtr, inB, sval, stake, eats, eaters, get, cval, cval1, croom, St.taken, put_slot, put_room, put_box, put_ctr, put_none, dem_none, dem_slot, dem_box, dem_room, dem_room1, setBox_slot, setBox_room, setBox_box, entry_slot, entry_room, entry_box, entry_ctr, endQ, endR, endV, rvars, rvar, room1, ↓reduceIte, Nat.reduceEqDiff, Nat.reduceLT, Nat.reduceLeDiff, reduceCtorEq, decide_true, decide_false, List.filterMap_cons, List.filterMap_nil, Option.bind_some, Option.map_some, List.getElem?_cons_zero, List.getElem?_cons_succ, List.getD_cons_zero, List.getD_cons_succ, List.contains_cons, List.contains_nil, List.map_cons, List.map_nil, beq_self_eq_true, Bool.or_false, Bool.or_true, Bool.and_true, Nat.reduceBEq, Bool.false_eq_true, dbin, dIntBin, okR, callG, row9, frz9, frzOf_def, frz_nil, Bool.not_true, Bool.not_false, pureB, leaf, leafN, List.all_cons, List.all_nil, List.nil_append, List.cons_append, List.append_nil, List.take_nil, List.range_zero, List.length_nil, List.length_cons, dun, List.getElem?_nil, List.take_zero, List.drop_zero, List.take_succ_cons, List.drop_succ_cons, dcells, Nat.zero_add, Nat.reduceAdd, stepBox, Bool.and_false, Int.natCast_nonneg, Int.toNat_natCast, and_self, Nat.add_zero, gt_iff_lt, dStrBin, ty3, ty4, ty9, dp3, dp9, fa56_0, fa56_3, ia24, ty41, dp41, fp41_0, fp41_1, fp41_2, fp41_3, zr41, ty51, fp51_1, bd51, pid0, Nat.le_refl, stepPtr]
    | (refine drW_intro (by kernel_rfl) ?_)
    | (refine gw_intro (fun h => ?_) (fun h => ?_) <;> (try simp only [beq_true, beq_false, Bool.not_eq_eq_eq_not, Bool.not_true, Bool.not_false, Bool.not_not, decide_eq_true_eq, decide_eq_false_iff_not, ge_iff_le, gt_iff_lt] at h)))
              · rw [if_pos c6]
                have b6 : (tx ts (p2 - 1) == [33]) = false := beq_eq_false_iff_ne.2 c6
                clear hT hqle c1 c2 c4 hple c5 c6
                unfold De.d
                rcases hnm with ⟨n1, n2⟩ | ⟨n1, n2⟩
                all_goals
                  rw [n1] at hPre'
                  rw [n2]
                  clear n1 n2
                  refine callK (m := 121) (res := [7]) (rs := [.cell 6 41, .tmp 7]) rfl Try.func34 rfl rfl rfl rfl rfl ?_
                  repeat' (first
    | simp only [*, go_seq, go_cond, go_skip, go_retc, go_region, go_ops_nil, go_ops, okG_some, okB_some, gwD_bool, cwD_bool, gw_true, gw_false, guardG, opG, isPtr, inB, sval, stake, eats, eaters, get, cval, cval1, croom, St.taken, put_slot, put_room, put_box, put_ctr, put_none, dem_none, dem_slot, dem_box, dem_room, dem_room1, setBox_slot, setBox_room, setBox_box, entry_slot, entry_room, entry_box, entry_ctr, endQ, endR, endV, rvars, rvar, room1, ↓reduceIte, Nat.reduceEqDiff, Nat.reduceLT, Nat.reduceLeDiff, reduceCtorEq, decide_true, decide_false, List.filterMap_cons, List.filterMap_nil, Option.bind_some, Option.map_some, List.getElem?_cons_zero, List.getElem?_cons_succ, List.getD_cons_zero, List.getD_cons_succ, List.contains_cons, List.contains_nil, List.map_cons, List.map_nil, beq_self_eq_true, Bool.or_false, Bool.or_true, Bool.and_true, Nat.reduceBEq, Bool.false_eq_true, dbin, dIntBin, okR, callG, row9, frz9, frzOf_def, frz_nil, Bool.not_true, Bool.not_false, pureB, leaf, leafN, List.all_cons, List.all_nil, List.nil_append, List.cons_append, List.append_nil, List.take_nil, List.range_zero, List.length_nil, List.length_cons, dun, List.getElem?_nil, List.take_zero, List.drop_zero, List.take_succ_cons, List.drop_succ_cons, dcells, Nat.zero_add, Nat.reduceAdd, stepBox, Bool.and_false, Int.natCast_nonneg, Int.toNat_natCast, and_self, Nat.add_zero, gt_iff_lt, dStrBin, ty3, ty9, dp3, dp9, fa56_0, fa56_3, ia24, ty41, dp41, fp41_0, fp41_1, fp41_2, zr41, ty51, fp51_1, bd51, pid0, Nat.le_refl, stepPtr]
    | (refine drW_intro (by kernel_rfl) ?_)
    | (refine gw_intro (fun h => ?_) (fun h => ?_) <;> (try simp only [beq_true, beq_false, Bool.not_eq_eq_eq_not, Bool.not_true, Bool.not_false, Bool.not_not, decide_eq_true_eq, decide_eq_false_iff_not, ge_iff_le, gt_iff_lt] at h)))
            · rw [if_pos c5]
              have b5 : (kd ts (p2 - 1) == 9) = false := beq_eq_false_iff_ne.2 c5
              clear hT hqle c1 c2 c4 hple c5
              unfold De.d
              rcases hnm with ⟨n1, n2⟩ | ⟨n1, n2⟩
              all_goals
                rw [n1] at hPre'
                rw [n2]
                clear n1 n2
                refine callK (m := 121) (res := [7]) (rs := [.cell 6 41, .tmp 7]) rfl Try.func34 rfl rfl rfl rfl rfl ?_
                repeat' (first
    | simp only [*, go_seq, go_cond, go_skip, go_retc, go_region, go_ops_nil, go_ops, okG_some, okB_some, gwD_bool, cwD_bool, gw_true, gw_false, guardG, opG, isPtr, inB, sval, stake, eats, eaters, get, cval, cval1, croom, St.taken, put_slot, put_room, put_box, put_ctr, put_none, dem_none, dem_slot, dem_box, dem_room, dem_room1, setBox_slot, setBox_room, setBox_box, entry_slot, entry_room, entry_box, entry_ctr, endQ, endR, endV, rvars, rvar, room1, ↓reduceIte, Nat.reduceEqDiff, Nat.reduceLT, Nat.reduceLeDiff, reduceCtorEq, decide_true, decide_false, List.filterMap_cons, List.filterMap_nil, Option.bind_some, Option.map_some, List.getElem?_cons_zero, List.getElem?_cons_succ, List.getD_cons_zero, List.getD_cons_succ, List.contains_cons, List.contains_nil, List.map_cons, List.map_nil, beq_self_eq_true, Bool.or_false, Bool.or_true, Bool.and_true, Nat.reduceBEq, Bool.false_eq_true, dbin, dIntBin, okR, callG, row9, frz9, frzOf_def, frz_nil, beq_true, Bool.not_true, Bool.not_false, pureB, leaf, leafN, List.all_cons, List.all_nil, List.nil_append, List.cons_append, List.append_nil, List.take_nil, List.range_zero, List.length_nil, List.length_cons, dun, List.getElem?_nil, List.take_zero, List.drop_zero, List.take_succ_cons, List.drop_succ_cons, dcells, Nat.zero_add, Nat.reduceAdd, stepBox, Bool.and_false, Int.natCast_nonneg, Int.toNat_natCast, and_self, Nat.add_zero, gt_iff_lt, dStrBin, ty3, ty9, dp3, dp9, fa56_0, fa56_3, ia24, ty41, dp41, fp41_0, fp41_1, fp41_2, zr41, ty51, fp51_1, bd51, pid0, Nat.le_refl, stepPtr]
    | (refine drW_intro (by kernel_rfl) ?_)
    | (refine gw_intro (fun h => ?_) (fun h => ?_) <;> (try simp only [beq_true, beq_false, Bool.not_eq_eq_eq_not, Bool.not_true, Bool.not_false, Bool.not_not, decide_eq_true_eq, decide_eq_false_iff_not, ge_iff_le, gt_iff_lt] at h)))
        · rw [if_pos c3]
          have b3 : (lowB (tx ts (q2 - 1)) == wordI) = false := beq_eq_false_iff_ne.2 c3
          rw [b3] at hS'
          clear hT hqle c1 c2 c3
          unfold De.d
          rcases hnm with ⟨n1, n2⟩ | ⟨n1, n2⟩
          all_goals
            rw [n1] at hPre'
            rw [n2]
            clear n1 n2
            refine callK (m := 121) (res := [7]) (rs := [.cell 6 41, .tmp 7]) rfl Try.func34 rfl rfl rfl rfl rfl ?_
            repeat' (first
    | simp only [*, go_seq, go_cond, go_skip, go_retc, go_region, go_ops_nil, go_ops, okG_some, okB_some, gwD_bool, cwD_bool, gw_true, gw_false, guardG, opG, isPtr, inB, sval, stake, eats, eaters, get, cval, cval1, croom, St.taken, put_slot, put_room, put_box, put_ctr, put_none, dem_none, dem_slot, dem_box, dem_room, dem_room1, setBox_slot, setBox_room, setBox_box, entry_slot, entry_room, entry_box, entry_ctr, endQ, endR, endV, rvars, rvar, room1, ↓reduceIte, Nat.reduceEqDiff, Nat.reduceLT, Nat.reduceLeDiff, reduceCtorEq, decide_true, decide_false, List.filterMap_cons, List.filterMap_nil, Option.bind_some, Option.map_some, List.getElem?_cons_zero, List.getElem?_cons_succ, List.getD_cons_zero, List.getD_cons_succ, List.contains_cons, List.contains_nil, List.map_cons, List.map_nil, beq_self_eq_true, Bool.or_false, Bool.or_true, Bool.and_true, Nat.reduceBEq, Bool.false_eq_true, dbin, dIntBin, okR, callG, row9, frz9, frzOf_def, frz_nil, Bool.not_true, Bool.not_false, pureB, leaf, leafN, List.all_cons, List.all_nil, List.nil_append, List.cons_append, List.append_nil, List.take_nil, List.range_zero, List.length_nil, List.length_cons, dun, List.getElem?_nil, List.take_zero, List.drop_zero, List.take_succ_cons, List.drop_succ_cons, dcells, Nat.zero_add, Nat.reduceAdd, stepBox, Bool.and_false, Int.natCast_nonneg, Int.toNat_natCast, and_self, Nat.add_zero, dStrBin, ty3, ty9, dp3, dp9, fa56_0, fa56_3, ia24, ty41, dp41, fp41_0, fp41_1, fp41_2, zr41, ty51, fp51_1, bd51, pid0, Nat.le_refl, stepPtr]
    | (refine drW_intro (by kernel_rfl) ?_)
    | (refine gw_intro (fun h => ?_) (fun h => ?_) <;> (try simp only [beq_true, beq_false, Bool.not_eq_eq_eq_not, Bool.not_true, Bool.not_false, Bool.not_not, decide_eq_true_eq, decide_eq_false_iff_not, ge_iff_le, gt_iff_lt] at h)))
      · rw [if_pos c2]
        have b2 : (kd ts (q2 - 1) != 1) = true := by simpa using c2
        clear hT hqle c1 c2
        unfold De.d
        rcases hnm with ⟨n1, n2⟩ | ⟨n1, n2⟩
        all_goals
          rw [n1] at hPre'
          rw [n2]
          clear n1 n2
          refine callK (m := 121) (res := [7]) (rs := [.cell 6 41, .tmp 7]) rfl Try.func34 rfl rfl rfl rfl rfl ?_
          repeat' (first
    | simp only [*, go_seq, go_cond, go_skip, go_retc, go_region, go_ops_nil, go_ops, okG_some, okB_some, gwD_bool, cwD_bool, gw_true, gw_false, guardG, opG, isPtr, inB, sval, stake, eats, eaters, get, cval, cval1, croom, St.taken, put_slot, put_room, put_box, put_ctr, put_none, dem_none, dem_slot, dem_box, dem_room, dem_room1, setBox_slot, setBox_room, setBox_box, entry_slot, entry_room, entry_box, entry_ctr, endQ, endR, endV, rvars, rvar, room1, ↓reduceIte, Nat.reduceEqDiff, Nat.reduceLT, Nat.reduceLeDiff, reduceCtorEq, decide_true, decide_false, List.filterMap_cons, List.filterMap_nil, Option.bind_some, Option.map_some, List.getElem?_cons_zero, List.getElem?_cons_succ, List.getD_cons_zero, List.getD_cons_succ, List.contains_cons, List.contains_nil, List.map_cons, List.map_nil, beq_self_eq_true, Bool.or_false, Bool.or_true, Bool.and_true, Nat.reduceBEq, Bool.false_eq_true, dbin, dIntBin, okR, callG, row9, frz9, frzOf_def, frz_nil, beq_false, Bool.not_true, Bool.not_false, pureB, leaf, leafN, List.all_cons, List.all_nil, List.nil_append, List.cons_append, List.append_nil, List.take_nil, List.range_zero, List.length_nil, List.length_cons, dun, List.getElem?_nil, List.take_zero, List.drop_zero, List.take_succ_cons, List.drop_succ_cons, dcells, Nat.zero_add, Nat.reduceAdd, stepBox, Bool.and_false, Int.natCast_nonneg, Int.toNat_natCast, and_self, Nat.add_zero, dStrBin, ty3, ty9, dp3, dp9, fa56_0, fa56_3, ia24, ty41, dp41, fp41_0, fp41_1, fp41_2, zr41, ty51, fp51_1, bd51, pid0, Nat.le_refl, stepPtr]
    | (refine drW_intro (by kernel_rfl) ?_)
    | (refine gw_intro (fun h => ?_) (fun h => ?_) <;> (try simp only [beq_true, beq_false, Bool.not_eq_eq_eq_not, Bool.not_true, Bool.not_false, Bool.not_not, decide_eq_true_eq, decide_eq_false_iff_not, ge_iff_le, gt_iff_lt] at h)))
end Go.Av
