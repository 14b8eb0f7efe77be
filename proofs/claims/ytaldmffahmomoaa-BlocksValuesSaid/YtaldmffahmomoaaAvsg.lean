/- The evaluator, in one text: over any program; no conditions but those that each law names. -/
import Derived.Test.YtaldmffahmomoaaAvsf
set_option linter.unusedSimpArgs false
set_option linter.unusedVariables false
set_option linter.unusedSectionVars false
/- Chapter 19: a declaration: the program's text. -/
set_option linter.unusedSimpArgs false
set_option linter.unusedVariables false
set_option linter.unusedSectionVars false
set_option maxRecDepth 100000
namespace Go.Av
open Go.Proofs Go.Proofs.Ytaldmffahmomoaa Go.RowKit
def wordI : List UInt8 := [105, 109, 112, 111, 114, 116, 97, 110, 116]
def dashes : List UInt8 := [45, 45]
def nameF (t : List UInt8) : List UInt8 := if preB dashes t = true then t else lowB t
/-- Behind the head of a declaration, told by what stands at its end. -/
def declE (name : List UInt8) (q p z : Nat × Nat) (k1 k9 : Int) (t1 t9 : List UInt8) : De × Bool :=
  if q.2 ≤ q.1 then (⟨name, q.1, q.2, false⟩, true) else if k1 ≠ 1 then (⟨name, q.1, q.2, false⟩, true) else if lowB t1 ≠ wordI then (⟨name, q.1, q.2, false⟩, true)
  else if p.2 ≤ p.1 then (⟨name, q.1, q.2, false⟩, true) else if k9 ≠ 9 then (⟨name, q.1, q.2, false⟩, true) else if t9 ≠ [33] then (⟨name, q.1, q.2, false⟩, true) else (⟨name, z.1, z.2, true⟩, true)
def declQ (ts : List Tk) (to k : Nat) : Nat × Nat := trimF ts ((k + 1 : Nat) : Int) (to : Nat)
def declP (ts : List Tk) (q : Nat × Nat) : Nat × Nat := trimF ts (q.1 : Nat) ((q.2 - 1 : Nat) : Int)
def declZ (ts : List Tk) (q p : Nat × Nat) : Nat × Nat := trimF ts (q.1 : Nat) ((p.2 - 1 : Nat) : Int)
def declG (ts : List Tk) (fr : Nat) (q : Nat × Nat) : De × Bool :=
  declE (nameF (tx ts fr)) q (declP ts q) (declZ ts q (declP ts q)) (kd ts (q.2 - 1)) (kd ts ((declP ts q).2 - 1)) (tx ts (q.2 - 1)) (tx ts ((declP ts q).2 - 1))
/-- The declaration that a part is; whether it is one. -/
def declF (ts : List Tk) (fr to : Nat) : De × Bool :=
  if isB ts (spF (kd ts) to (fr + 1)) to 16 = true then declG ts fr (declQ ts to (spF (kd ts) to (fr + 1))) else (⟨[], 0, 0, false⟩, false)
theorem trimF_le (ts : List Tk) (fr to : Int) : (trimF ts fr to).2 ≤ ts.length ∨ (trimF ts fr to).2 ≤ (trimF ts fr to).1 := by
  have h1 := cutF_le ts fr to
  have h2 := cutF_ge ts fr to
  unfold trimF
  have h3 := spF_ge (kd ts) (cutF ts fr to).2 (cutF ts fr to).1
  split
  · exact .inr (Nat.le_refl _)
  · have h4 := (bkF_pos (ks := kd ts) (s := spF (kd ts) (cutF ts fr to).2 (cutF ts fr to).1) (e := (cutF ts fr to).2)).1
    refine .inl ?_
    show bkF _ _ _ ≤ _
    omega
theorem wM (n : Nat) (h : 0 < n) (h2 : n ≤ 1000000000) : IntKind.i64.wrap ((n : Int) - 1) = ((n - 1 : Nat) : Int) := by rw [wrap64 _ (by omega) (by omega)]; omega
theorem lowWord : lowB wordI = wordI := by decide
set_option maxHeartbeats 32000000 in
theorem decl_L {ts : List Tk} (hT : TL ts) {fr to : Nat} (ht : to ≤ ts.length) (hf : fr < to) : callL Try.prog ext9 34 [Tks ts, .int .i64 (fr : Nat), .int .i64 (to : Nat)] [] =
    some (.tuple [(declF ts fr to).1.d, .bool (declF ts fr to).2], [.no, .no], []) := by
  have hl := hT.len
  have lN := TkLen ts
  have hro : RO ts (fr + 1) to := ⟨hl, .inl ht⟩
  have hw1 := wrapS fr (by omega)
  have hB := blanks_L hro
  have hsp := spF_ge (kd ts) to (fr + 1)
  unfold declF
  generalize spF (kd ts) to (fr + 1) = k at *
  have hI := isK_L (hro.next k hsp.1) 16
  cases hb : isB ts k to 16 with
  | false =>
    rw [hb] at hI
    rw [if_neg (by simp)]
    unfold De.d
    clear hro hT
    refine callK (m := 121) (res := [7]) (rs := [.cell 6 41, .tmp 7]) rfl Try.func34 rfl rfl rfl rfl rfl ?_
    repeat' (first
    | simp only [*, go_seq, go_cond, go_retc, go_region, go_ops_nil, go_ops, okG_some, okB_some, cwD_bool, gw_true, guardG, opG, isPtr, inB, sval, stake, eats, eaters, get, cval, cval1, croom, St.taken, put_slot, put_room, put_box, put_ctr, put_none, dem_none, dem_slot, dem_box, setBox_slot, setBox_room, setBox_box, entry_slot, entry_box, entry_ctr, endQ, endR, endV, rvars, rvar, room1, ↓reduceIte, Nat.reduceEqDiff, Nat.reduceLT, reduceCtorEq, decide_true, List.filterMap_cons, List.filterMap_nil, Option.map_some, List.getD_cons_zero, List.getD_cons_succ, List.contains_cons, List.contains_nil, List.map_cons, List.map_nil, Bool.or_false, Bool.and_true, Nat.reduceBEq, Bool.false_eq_true, dbin, dIntBin, row9, frz9, frzOf_def, frz_nil, Bool.not_false, pureB, leaf, leafN, List.all_cons, List.all_nil, List.nil_append, List.append_nil, List.take_nil, List.range_zero, List.length_nil, List.length_cons, dun, List.getElem?_nil, List.take_zero, List.drop_zero, List.drop_succ_cons, dcells, Nat.zero_add, Nat.reduceAdd, stepBox, Bool.and_false, and_true, and_self, ty41, dp41, zr41, ty51, bd51, pid0, Nat.le_refl, stepPtr]
    | (refine drW_intro (by kernel_rfl) ?_)
    | (refine gw_intro (fun h => ?_) (fun h => ?_) <;> (try simp only [beq_true, beq_false, Bool.not_eq_eq_eq_not, Bool.not_true, Bool.not_false, Bool.not_not, decide_eq_true_eq, decide_eq_false_iff_not, ge_iff_le, gt_iff_lt] at h)))
    all_goals rfl
  | true =>
    rw [hb] at hI
    rw [if_pos rfl]
    have hkt := (isB_lt hb).1
    have hw2 := wrapS k (by omega)
    have g1 : (fr : Int) < ts.length := by omega
    have hg1 := tk_at ts fr (by omega)
    have hQ : callL Try.prog ext9 19 [Tks ts, .int .i64 ((k + 1 : Nat) : Int), .int .i64 (to : Nat)] [] = some (.tuple [.int .i64 ((declQ ts to k).1 : Nat), .int .i64 ((declQ ts to k).2 : Nat)], [.no, .no], []) := trim_L ts hl _ _
    have hqle : (declQ ts to k).2 ≤ ts.length ∨ (declQ ts to k).2 ≤ (declQ ts to k).1 := trimF_le ts _ _
    have hPre := pre_L (tx ts fr) dashes
    have hLow := lower_L (tx ts fr) (by have := hT.txt fr; omega)
    generalize declQ ts to k = q at *
    obtain ⟨q1, q2⟩ := q
    have hPre' : callL Try.prog ext9 44 [.str (tx ts fr), .str [45, 45]] [] = some (.bool (preB dashes (tx ts fr)), [.no], []) := hPre
    have hnm : (preB dashes (tx ts fr) = true ∧ nameF (tx ts fr) = tx ts fr) ∨ (preB dashes (tx ts fr) = false ∧ nameF (tx ts fr) = lowB (tx ts fr)) := by
      unfold nameF
      cases preB dashes (tx ts fr) with
      | true => exact .inl ⟨rfl, if_pos rfl⟩
      | false => exact .inr ⟨rfl, if_neg (by simp)⟩
    clear hPre hb hro
    unfold declG declE
    dsimp only at *
    by_cases c1 : q2 ≤ q1
    · rw [if_pos c1]
      have c1' : (q2 : Int) ≤ q1 := by omega
      clear hT hqle c1
      unfold De.d
      rcases hnm with ⟨n1, n2⟩ | ⟨n1, n2⟩
      all_goals
        rw [n1] at hPre'
        rw [n2]
        clear n1 n2
        refine callK (m := 121) (res := [7]) (rs := [.cell 6 41, .tmp 7]) rfl Try.func34 rfl rfl rfl rfl rfl ?_
        repeat' (first
    | simp only [*, go_seq, go_cond, go_skip, go_retc, go_region, go_ops_nil, go_ops, okG_some, okB_some, gwD_bool, cwD_bool, gw_true, gw_false, guardG, opG, isPtr, inB, sval, stake, eats, eaters, get, cval, cval1, croom, St.taken, put_slot, put_room, put_box, put_ctr, put_none, dem_none, dem_slot, dem_box, dem_room, dem_room1, setBox_slot, setBox_room, setBox_box, entry_slot, entry_room, entry_box, entry_ctr, endQ, endR, endV, rvars, rvar, room1, ↓reduceIte, Nat.reduceEqDiff, Nat.reduceLT, Nat.reduceLeDiff, reduceCtorEq, decide_true, List.filterMap_cons, List.filterMap_nil, Option.bind_some, Option.map_some, List.getElem?_cons_zero, List.getElem?_cons_succ, List.getD_cons_zero, List.getD_cons_succ, List.contains_cons, List.contains_nil, List.map_cons, List.map_nil, beq_self_eq_true, Bool.or_false, Bool.or_true, Bool.and_true, Nat.reduceBEq, Bool.false_eq_true, dbin, dIntBin, okR, callG, row9, frz9, frzOf_def, frz_nil, beq_false, Bool.not_true, Bool.not_false, pureB, leaf, leafN, List.all_cons, List.all_nil, List.nil_append, List.cons_append, List.append_nil, List.take_nil, List.range_zero, List.length_nil, List.length_cons, dun, List.getElem?_nil, List.take_zero, List.drop_zero, List.take_succ_cons, List.drop_succ_cons, dcells, Nat.zero_add, Nat.reduceAdd, stepBox, Bool.and_false, Int.natCast_nonneg, Int.toNat_natCast, and_self, Nat.add_zero, dStrBin, ty3, ty9, dp3, dp9, fa56_3, ia24, ty41, dp41, fp41_0, fp41_1, fp41_2, zr41, ty51, fp51_1, bd51, pid0, Nat.le_refl, stepPtr]
    | (refine drW_intro (by kernel_rfl) ?_)
    | (refine gw_intro (fun h => ?_) (fun h => ?_) <;> (try simp only [beq_true, beq_false, Bool.not_eq_eq_eq_not, Bool.not_true, Bool.not_false, Bool.not_not, decide_eq_true_eq, decide_eq_false_iff_not, ge_iff_le, gt_iff_lt] at h)))
    · rw [if_neg c1]
      have c1' : ¬ (q2 : Int) ≤ q1 := by omega
      have hq : 0 < q2 ∧ q2 ≤ ts.length := by omega
      have hwq := wM q2 hq.1 (by omega)
      have g2 : ((q2 - 1 : Nat) : Int) < ts.length := by omega
      have hg2 := tk_at ts (q2 - 1) (by omega)
      by_cases c2 : kd ts (q2 - 1) = 1
      · rw [if_neg (not_not_intro c2)]
        have b2 : (kd ts (q2 - 1) != 1) = false := by rw [c2]; rfl
        have hS := same_L (tx ts (q2 - 1)) wordI (by have := hT.txt (q2 - 1); omega) (by decide)
        rw [lowWord] at hS
        have hS' : callL Try.prog ext9 45 [.str (tx ts (q2 - 1)), .str [105, 109, 112, 111, 114, 116, 97, 110, 116]] [] = some (.bool (lowB (tx ts (q2 - 1)) == wordI), [.no], []) := hS
        clear hS
        by_cases c3 : lowB (tx ts (q2 - 1)) = wordI
        · rw [if_neg (not_not_intro c3)]
          have b3 : (lowB (tx ts (q2 - 1)) == wordI) = true := beq_iff_eq.2 c3
          rw [b3] at hS'
          have hP : callL Try.prog ext9 19 [Tks ts, .int .i64 (q1 : Nat), .int .i64 ((q2 - 1 : Nat) : Int)] [] = some (.tuple [.int .i64 ((declP ts (q1, q2)).1 : Nat), .int .i64 ((declP ts (q1, q2)).2 : Nat)], [.no, .no], []) := trim_L ts hl _ _
          have hple : (declP ts (q1, q2)).2 ≤ ts.length ∨ (declP ts (q1, q2)).2 ≤ (declP ts (q1, q2)).1 := trimF_le ts _ _
          generalize declP ts (q1, q2) = p at *
          obtain ⟨p1, p2⟩ := p
          dsimp only at *
          clear b3 c3
          by_cases c4 : p2 ≤ p1
          · rw [if_pos c4]
            have c4' : ¬ (p2 : Int) > p1 := by omega
            clear hT hqle c1 c2 c4 hple
            unfold De.d
            rcases hnm with ⟨n1, n2⟩ | ⟨n1, n2⟩
            all_goals
              rw [n1] at hPre'
              rw [n2]
              clear n1 n2
              refine callK (m := 121) (res := [7]) (rs := [.cell 6 41, .tmp 7]) rfl Try.func34 rfl rfl rfl rfl rfl ?_
              repeat' (first
    | simp only [*, go_seq, go_cond, go_skip, go_retc, go_region, go_ops_nil, go_ops, okG_some, okB_some, gwD_bool, cwD_bool, gw_true, gw_false, guardG, opG, isPtr, inB, sval, stake, eats, eaters, get, cval, cval1, croom, St.taken, put_slot, put_room, put_box, put_ctr, put_none, dem_none, dem_slot, dem_box, dem_room, dem_room1, setBox_slot, setBox_room, setBox_box, entry_slot, entry_room, entry_box, entry_ctr, endQ, endR, endV, rvars, rvar, room1, ↓reduceIte, Nat.reduceEqDiff, Nat.reduceLT, Nat.reduceLeDiff, reduceCtorEq, decide_true, decide_false, List.filterMap_cons, List.filterMap_nil, Option.bind_some, Option.map_some, List.getElem?_cons_zero, List.getElem?_cons_succ, List.getD_cons_zero, List.getD_cons_succ, List.contains_cons, List.contains_nil, List.map_cons, List.map_nil, beq_self_eq_true, Bool.or_false, Bool.or_true, Bool.and_true, Nat.reduceBEq, Bool.false_eq_true, dbin, dIntBin, okR, callG, row9, frz9, frzOf_def, frz_nil, beq_true, Bool.not_true, Bool.not_false, pureB, leaf, leafN, List.all_cons, List.all_nil, List.nil_append, List.cons_append, List.append_nil, List.take_nil, List.range_zero, List.length_nil, List.length_cons, dun, List.getElem?_nil, List.take_zero, List.drop_zero, List.take_succ_cons, List.drop_succ_cons, dcells, Nat.zero_add, Nat.reduceAdd, stepBox, Bool.and_false, Int.natCast_nonneg, Int.toNat_natCast, and_self, Nat.add_zero, gt_iff_lt, dStrBin, ty3, ty9, dp3, dp9, fa56_0, fa56_3, ia24, ty41, dp41, fp41_0, fp41_1, fp41_2, zr41, ty51, fp51_1, bd51, pid0, Nat.le_refl, stepPtr]
    | (refine drW_intro (by kernel_rfl) ?_)
    | (refine gw_intro (fun h => ?_) (fun h => ?_) <;> (try simp only [beq_true, beq_false, Bool.not_eq_eq_eq_not, Bool.not_true, Bool.not_false, Bool.not_not, decide_eq_true_eq, decide_eq_false_iff_not, ge_iff_le, gt_iff_lt] at h)))
          · rw [if_neg c4]
            have c4' : (p2 : Int) > p1 := by omega
            have hp : 0 < p2 ∧ p2 ≤ ts.length := by omega
            have hwp := wM p2 hp.1 (by omega)
            have g3 : ((p2 - 1 : Nat) : Int) < ts.length := by omega
            have hg3 := tk_at ts (p2 - 1) (by omega)
            by_cases c5 : kd ts (p2 - 1) = 9
            · rw [if_neg (not_not_intro c5)]
              have b5 : (kd ts (p2 - 1) == 9) = true := beq_iff_eq.2 c5
              by_cases c6 : tx ts (p2 - 1) = [33]
              · rw [if_neg (not_not_intro c6)]
                have b6 : (tx ts (p2 - 1) == [33]) = true := beq_iff_eq.2 c6
                have hZ : callL Try.prog ext9 19 [Tks ts, .int .i64 (q1 : Nat), .int .i64 ((p2 - 1 : Nat) : Int)] [] = some (.tuple [.int .i64 ((declZ ts (q1, q2) (p1, p2)).1 : Nat), .int .i64 ((declZ ts (q1, q2) (p1, p2)).2 : Nat)], [.no, .no], []) := trim_L ts hl _ _
                generalize declZ ts (q1, q2) (p1, p2) = z at *
                obtain ⟨z1, z2⟩ := z
                dsimp only at *
                clear hT hqle c1 c2 c4 hple c5 c6
                unfold De.d
                rcases hnm with ⟨n1, n2⟩ | ⟨n1, n2⟩
                all_goals
                  rw [n1] at hPre'
                  rw [n2]
                  clear n1 n2
                  refine callK (m := 121) (res := [7]) (rs := [.cell 6 41, .tmp 7]) rfl Try.func34 rfl rfl rfl rfl rfl ?_
                  repeat' (first
    | simp only [*, go_seq, go_cond, go_skip, go_retc, go_region, go_ops_nil, go_ops, okG_some, okB_some, gwD_bool, cwD_bool, gw_true, gw_false, guardG, opG, isPtr, inB, sval, stake, eats, eaters, get, cval, cval1, croom, St.taken, put_slot, put_room, put_box, put_ctr, put_none, dem_none, dem_slot, dem_box, dem_room, dem_room1, setBox_slot, setBox_room, setBox_box, entry_slot, entry_room, entry_box, entry_ctr, endQ, endR, endV, rvars, rvar, room1, ↓reduceIte, Nat.reduceEqDiff, Nat.reduceLT, Nat.reduceLeDiff, reduceCtorEq, decide_true, decide_false, List.filterMap_cons, List.filterMap_nil, Option.bind_some, Option.map_some, List.getElem?_cons_zero, List.getElem?_cons_succ, List.getD_cons_zero, List.getD_cons_succ, List.contains_cons, List.contains_nil, List.map_cons, List.map_nil, beq_self_eq_true, Bool.or_false, Bool.or_true, Bool.and_true, Nat.reduceBEq, Bool.false_eq_true, dbin, dIntBin, okR, callG, row9, frz9, frzOf_def, frz_nil, Bool.not_true, Bool.not_false, pureB, leaf, leafN, List.all_cons, List.all_nil, List.nil_append, List.cons_append, List.append_nil, List.take_nil, List.range_zero, List.length_nil, List.length_cons, dun, List.getElem?_nil, List.take_zero, List.drop_zero, List.take_succ_cons, List.drop_succ_cons, dcells, Nat.zero_add, Nat.reduceAdd, stepBox, Bool.and_false, Int.natCast_nonneg, Int.toNat_natCast, and_self, Nat.add_zero, gt_iff_lt, dStrBin, ty3, ty4, ty9, dp3, dp9, fa56_0, fa56_3, ia24, ty41, dp41, fp41_0, fp41_1, fp41_2, fp41_3, zr41, ty51, fp51_1, bd51, pid0, Nat.le_refl, stepPtr]
    | (refine drW_intro (by kernel_rfl) ?_)
    | (refine gw_intro (fun h => ?_) (fun h => ?_) <;> (try simp only [beq_true, beq_false, Bool.not_eq_eq_eq_not, Bool.not_true, Bool.not_false, Bool.not_not, decide_eq_true_eq, decide_eq_false_iff_not, ge_iff_le, gt_iff_lt] at h)))
              · rw [if_pos c6]
                have b6 : (tx ts (p2 - 1) == [33]) = false := beq_eq_false_iff_ne.2 c6
                clear hT hqle c1 c2 c4 hple c5 c6
                unfold De.d
                rcases hnm with ⟨n1, n2⟩ | ⟨n1, n2⟩
                all_goals
                  rw [n1] at hPre'
                  rw [n2]
                  clear n1 n2
                  refine callK (m := 121) (res := [7]) (rs := [.cell 6 41, .tmp 7]) rfl Try.func34 rfl rfl rfl rfl rfl ?_
                  repeat' (first
    | simp only [*, go_seq, go_cond, go_skip, go_retc, go_region, go_ops_nil, go_ops, okG_some, okB_some, gwD_bool, cwD_bool, gw_true, gw_false, guardG, opG, isPtr, inB, sval, stake, eats, eaters, get, cval, cval1, croom, St.taken, put_slot, put_room, put_box, put_ctr, put_none, dem_none, dem_slot, dem_box, dem_room, dem_room1, setBox_slot, setBox_room, setBox_box, entry_slot, entry_room, entry_box, entry_ctr, endQ, endR, endV, rvars, rvar, room1, ↓reduceIte, Nat.reduceEqDiff, Nat.reduceLT, Nat.reduceLeDiff, reduceCtorEq, decide_true, decide_false, List.filterMap_cons, List.filterMap_nil, Option.bind_some, Option.map_some, List.getElem?_cons_zero, List.getElem?_cons_succ, List.getD_cons_zero, List.getD_cons_succ, List.contains_cons, List.contains_nil, List.map_cons, List.map_nil, beq_self_eq_true, Bool.or_false, Bool.or_true, Bool.and_true, Nat.reduceBEq, Bool.false_eq_true, dbin, dIntBin, okR, callG, row9, frz9, frzOf_def, frz_nil, Bool.not_true, Bool.not_false, pureB, leaf, leafN, List.all_cons, List.all_nil, List.nil_append, List.cons_append, List.append_nil, List.take_nil, List.range_zero, List.length_nil, List.length_cons, dun, List.getElem?_nil, List.take_zero, List.drop_zero, List.take_succ_cons, List.drop_succ_cons, dcells, Nat.zero_add, Nat.reduceAdd, stepBox, Bool.and_false, Int.natCast_nonneg, Int.toNat_natCast, and_self, Nat.add_zero, gt_iff_lt, dStrBin, ty3, ty9, dp3, dp9, fa56_0, fa56_3, ia24, ty41, dp41, fp41_0, fp41_1, fp41_2, zr41, ty51, fp51_1, bd51, pid0, Nat.le_refl, stepPtr]
    | (refine drW_intro (by kernel_rfl) ?_)
    | (refine gw_intro (fun h => ?_) (fun h => ?_) <;> (try simp only [beq_true, beq_false, Bool.not_eq_eq_eq_not, Bool.not_true, Bool.not_false, Bool.not_not, decide_eq_true_eq, decide_eq_false_iff_not, ge_iff_le, gt_iff_lt] at h)))
            · rw [if_pos c5]
              have b5 : (kd ts (p2 - 1) == 9) = false := beq_eq_false_iff_ne.2 c5
              clear hT hqle c1 c2 c4 hple c5
              unfold De.d
              rcases hnm with ⟨n1, n2⟩ | ⟨n1, n2⟩
              all_goals
                rw [n1] at hPre'
                rw [n2]
                clear n1 n2
                refine callK (m := 121) (res := [7]) (rs := [.cell 6 41, .tmp 7]) rfl Try.func34 rfl rfl rfl rfl rfl ?_
                repeat' (first
    | simp only [*, go_seq, go_cond, go_skip, go_retc, go_region, go_ops_nil, go_ops, okG_some, okB_some, gwD_bool, cwD_bool, gw_true, gw_false, guardG, opG, isPtr, inB, sval, stake, eats, eaters, get, cval, cval1, croom, St.taken, put_slot, put_room, put_box, put_ctr, put_none, dem_none, dem_slot, dem_box, dem_room, dem_room1, setBox_slot, setBox_room, setBox_box, entry_slot, entry_room, entry_box, entry_ctr, endQ, endR, endV, rvars, rvar, room1, ↓reduceIte, Nat.reduceEqDiff, Nat.reduceLT, Nat.reduceLeDiff, reduceCtorEq, decide_true, decide_false, List.filterMap_cons, List.filterMap_nil, Option.bind_some, Option.map_some, List.getElem?_cons_zero, List.getElem?_cons_succ, List.getD_cons_zero, List.getD_cons_succ, List.contains_cons, List.contains_nil, List.map_cons, List.map_nil, beq_self_eq_true, Bool.or_false, Bool.or_true, Bool.and_true, Nat.reduceBEq, Bool.false_eq_true, dbin, dIntBin, okR, callG, row9, frz9, frzOf_def, frz_nil, beq_true, Bool.not_true, Bool.not_false, pureB, leaf, leafN, List.all_cons, List.all_nil, List.nil_append, List.cons_append, List.append_nil, List.take_nil, List.range_zero, List.length_nil, List.length_cons, dun, List.getElem?_nil, List.take_zero, List.drop_zero, List.take_succ_cons, List.drop_succ_cons, dcells, Nat.zero_add, Nat.reduceAdd, stepBox, Bool.and_false, Int.natCast_nonneg, Int.toNat_natCast, and_self, Nat.add_zero, gt_iff_lt, dStrBin, ty3, ty9, dp3, dp9, fa56_0, fa56_3, ia24, ty41, dp41, fp41_0, fp41_1, fp41_2, zr41, ty51, fp51_1, bd51, pid0, Nat.le_refl, stepPtr]
    | (refine drW_intro (by kernel_rfl) ?_)
    | (refine gw_intro (fun h => ?_) (fun h => ?_) <;> (try simp only [beq_true, beq_false, Bool.not_eq_eq_eq_not, Bool.not_true, Bool.not_false, Bool.not_not, decide_eq_true_eq, decide_eq_false_iff_not, ge_iff_le, gt_iff_lt] at h)))
        · rw [if_pos c3]
          have b3 : (lowB (tx ts (q2 - 1)) == wordI) = false := beq_eq_false_iff_ne.2 c3
          rw [b3] at hS'
          clear hT hqle c1 c2 c3
          unfold De.d
          rcases hnm with ⟨n1, n2⟩ | ⟨n1, n2⟩
          all_goals
            rw [n1] at hPre'
            rw [n2]
            clear n1 n2
            refine callK (m := 121) (res := [7]) (rs := [.cell 6 41, .tmp 7]) rfl Try.func34 rfl rfl rfl rfl rfl ?_
            repeat' (first
    | simp only [*, go_seq, go_cond, go_skip, go_retc, go_region, go_ops_nil, go_ops, okG_some, okB_some, gwD_bool, cwD_bool, gw_true, gw_false, guardG, opG, isPtr, inB, sval, stake, eats, eaters, get, cval, cval1, croom, St.taken, put_slot, put_room, put_box, put_ctr, put_none, dem_none, dem_slot, dem_box, dem_room, dem_room1, setBox_slot, setBox_room, setBox_box, entry_slot, entry_room, entry_box, entry_ctr, endQ, endR, endV, rvars, rvar, room1, ↓reduceIte, Nat.reduceEqDiff, Nat.reduceLT, Nat.reduceLeDiff, reduceCtorEq, decide_true, decide_false, List.filterMap_cons, List.filterMap_nil, Option.bind_some, Option.map_some, List.getElem?_cons_zero, List.getElem?_cons_succ, List.getD_cons_zero, List.getD_cons_succ, List.contains_cons, List.contains_nil, List.map_cons, List.map_nil, beq_self_eq_true, Bool.or_false, Bool.or_true, Bool.and_true, Nat.reduceBEq, Bool.false_eq_true, dbin, dIntBin, okR, callG, row9, frz9, frzOf_def, frz_nil, Bool.not_true, Bool.not_false, pureB, leaf, leafN, List.all_cons, List.all_nil, List.nil_append, List.cons_append, List.append_nil, List.take_nil, List.range_zero, List.length_nil, List.length_cons, dun, List.getElem?_nil, List.take_zero, List.drop_zero, List.take_succ_cons, List.drop_succ_cons, dcells, Nat.zero_add, Nat.reduceAdd, stepBox, Bool.and_false, Int.natCast_nonneg, Int.toNat_natCast, and_self, Nat.add_zero, dStrBin, ty3, ty9, dp3, dp9, fa56_0, fa56_3, ia24, ty41, dp41, fp41_0, fp41_1, fp41_2, zr41, ty51, fp51_1, bd51, pid0, Nat.le_refl, stepPtr]
    | (refine drW_intro (by kernel_rfl) ?_)
    | (refine gw_intro (fun h => ?_) (fun h => ?_) <;> (try simp only [beq_true, beq_false, Bool.not_eq_eq_eq_not, Bool.not_true, Bool.not_false, Bool.not_not, decide_eq_true_eq, decide_eq_false_iff_not, ge_iff_le, gt_iff_lt] at h)))
      · rw [if_pos c2]
        have b2 : (kd ts (q2 - 1) != 1) = true := by simpa using c2
        clear hT hqle c1 c2
        unfold De.d
        rcases hnm with ⟨n1, n2⟩ | ⟨n1, n2⟩
        all_goals
          rw [n1] at hPre'
          rw [n2]
          clear n1 n2
          refine callK (m := 121) (res := [7]) (rs := [.cell 6 41, .tmp 7]) rfl Try.func34 rfl rfl rfl rfl rfl ?_
          repeat' (first
    | simp only [*, go_seq, go_cond, go_skip, go_retc, go_region, go_ops_nil, go_ops, okG_some, okB_some, gwD_bool, cwD_bool, gw_true, gw_false, guardG, opG, isPtr, inB, sval, stake, eats, eaters, get, cval, cval1, croom, St.taken, put_slot, put_room, put_box, put_ctr, put_none, dem_none, dem_slot, dem_box, dem_room, dem_room1, setBox_slot, setBox_room, setBox_box, entry_slot, entry_room, entry_box, entry_ctr, endQ, endR, endV, rvars, rvar, room1, ↓reduceIte, Nat.reduceEqDiff, Nat.reduceLT, Nat.reduceLeDiff, reduceCtorEq, decide_true, decide_false, List.filterMap_cons, List.filterMap_nil, Option.bind_some, Option.map_some, List.getElem?_cons_zero, List.getElem?_cons_succ, List.getD_cons_zero, List.getD_cons_succ, List.contains_cons, List.contains_nil, List.map_cons, List.map_nil, beq_self_eq_true, Bool.or_false, Bool.or_true, Bool.and_true, Nat.reduceBEq, Bool.false_eq_true, dbin, dIntBin, okR, callG, row9, frz9, frzOf_def, frz_nil, beq_false, Bool.not_true, Bool.not_false, pureB, leaf, leafN, List.all_cons, List.all_nil, List.nil_append, List.cons_append, List.append_nil, List.take_nil, List.range_zero, List.length_nil, List.length_cons, dun, List.getElem?_nil, List.take_zero, List.drop_zero, List.take_succ_cons, List.drop_succ_cons, dcells, Nat.zero_add, Nat.reduceAdd, stepBox, Bool.and_false, Int.natCast_nonneg, Int.toNat_natCast, and_self, Nat.add_zero, dStrBin, ty3, ty9, dp3, dp9, fa56_0, fa56_3, ia24, ty41, dp41, fp41_0, fp41_1, fp41_2, zr41, ty51, fp51_1, bd51, pid0, Nat.le_refl, stepPtr]
    | (refine drW_intro (by kernel_rfl) ?_)
    | (refine gw_intro (fun h => ?_) (fun h => ?_) <;> (try simp only [beq_true, beq_false, Bool.not_eq_eq_eq_not, Bool.not_true, Bool.not_false, Bool.not_not, decide_eq_true_eq, decide_eq_false_iff_not, ge_iff_le, gt_iff_lt] at h)))
end Go.Av
/- Chapter 19: a declaration: the document's text. -/
set_option linter.unusedSimpArgs false
set_option linter.unusedVariables false
set_option linter.unusedSectionVars false
set_option maxRecDepth 100000
namespace Go.Av
open Go.Proofs Go.Proofs.Ytaldmffahmomoaa Go.RowKit
theorem trimF_max (ts : List Tk) (hl : ts.length ≤ 1000000) (fr to : Int) (h : fr ≤ 1000001) : (trimF ts fr to).2 ≤ 1000001 := by
  have h1 := trimF_le ts fr to
  have h2 := cutF_le ts fr to
  have h3 := cutF_ge ts fr to
  unfold trimF at *
  have h0 : (cutF ts fr to).1 ≤ 1000001 := by show fr.toNat ≤ _; omega
  have h4 := spF_ge (kd ts) (cutF ts fr to).2 (cutF ts fr to).1
  split at h1
  · rename_i hc
    rw [if_pos hc]; exact h0
  · rename_i hc
    rw [if_neg hc]
    have h5 := (bkF_pos (ks := kd ts) (s := spF (kd ts) (cutF ts fr to).2 (cutF ts fr to).1) (e := (cutF ts fr to).2)).1
    show bkF _ _ _ ≤ _
    omega
theorem slD (t : List UInt8) (h : (t.length : Int) > 1) : (2 : Int) ≤ (t.length : Int) := by omega
set_option maxHeartbeats 32000000 in
theorem rdecl_L {ts : List Tk} (hT : TL ts) {fr to : Nat} (ht : to ≤ ts.length) (hf : fr < to) : callL Try.prog ext9 35 [Tks ts, .int .i64 (fr : Nat), .int .i64 (to : Nat)] [] =
    some (.tuple [(declF ts fr to).1.d, .bool (declF ts fr to).2], [.no, .no], []) := by
  have hl := hT.len
  have lN := TkLen ts
  have hw1 := wrapS fr (by omega)
  obtain ⟨R, hR⟩ : ∃ R, declF ts fr to = R := ⟨_, rfl⟩
  rw [hR]
  have HR := Hd.mk hR
  have HT := Hd.mk hT
  clear hR hT
  refine callK (m := 150) (res := [7]) (rs := [.cell 6 41, .tmp 7]) rfl Try.func35 rfl rfl rfl rfl rfl ?_
  repeat' (first
    | simp only [*, go_seq, go_block, go_loop, go_region, go_ops_nil, go_ops, okG_some, okB_some, guardG, opG, inB, sval, stake, eats, eaters, get, cval, cval1, croom, St.taken, put_slot, put_room, dem_none, setBox_slot, setBox_room, entry_slot, entry_ctr, ↓reduceIte, Nat.reduceEqDiff, Nat.reduceLT, decide_true, List.filterMap_cons, List.filterMap_nil, Option.map_some, List.getD_cons_zero, List.getD_cons_succ, List.contains_cons, List.contains_nil, Bool.or_false, Bool.and_true, Nat.reduceBEq, Bool.false_eq_true, dbin, dIntBin, row9, frz9, frzOf_def, frz_nil, leaf, leafN, List.all_cons, List.all_nil, List.length_nil, Nat.reduceAdd, stepBox, Bool.and_false, and_self, zr41]
    | (refine drW_intro (by kernel_rfl) ?_)
    | (refine gw_intro (fun h => ?_) (fun h => ?_) <;> (try simp only [beq_true, beq_false, Bool.not_eq_eq_eq_not, Bool.not_true, Bool.not_false, Bool.not_not, decide_eq_true_eq, decide_eq_false_iff_not, ge_iff_le, gt_iff_lt] at h)))
  refine loopH (fun st => ∃ i : Nat, Hd (fr + 1 ≤ i ∧ i ≤ to) ∧ st.slot 0 = .list (ts.map Tk.d) ∧ st.slot 1 = .int .i64 fr ∧ st.slot 2 = .int .i64 to ∧ st.slot 6 = .ptr 6 1 0 ∧ st.box 6 = some ⟨1, [.str [], .int .i64 0, .int .i64 0, .bool false]⟩ ∧ st.slot 8 = .int .i64 i ∧ Hd (spF (kd ts) to i = spF (kd ts) to (fr + 1)))
    (fun st => to - slotI st 8) ?_ ?_
  · refine ⟨fr + 1, Hd.mk ⟨Nat.le_refl _, hf⟩, ?_, ?_, ?_, ?_, ?_, ?_, Hd.mk rfl⟩
    all_goals simp only [*, put_slot, put_box, dem_slot, dem_box, setBox_box, entry_slot, ↓reduceIte, Nat.reduceEqDiff, reduceCtorEq, List.getD_cons_zero, List.getD_cons_succ]
  · rintro st K ⟨i, hfi, h0, h1, h2, h6, hb6, h8, hinv⟩ hn hx hr
    obtain ⟨hfi1, hfi2⟩ := (show fr + 1 ≤ i ∧ i ≤ to from hfi)
    have hinv' : spF (kd ts) to i = spF (kd ts) to (fr + 1) := hinv
    cases hb : isB ts i to 13 with
    | true =>
      obtain ⟨hlt, hk⟩ := isB_lt hb
      have bk : (kd ts i == 13) = true := beq_iff_eq.2 hk
      have g1 : (i : Int) < to := by omega
      have g2 : (i : Int) < ts.length := by omega
      have hg := tk_at ts i (by omega)
      have hw := wrapS i (by omega)
      have T := Hd.mk (show spF (kd ts) to (i + 1) = spF (kd ts) to (fr + 1) by rw [← spF_step hb]; exact hinv')
      clear hinv hinv' hb hk hx hr
      repeat' (first
    | simp only [*, go_nil, go_seq, go_cond, go_block, go_blk, go_skip, go_region, go_ops_nil, go_ops, okG_some, gwD_bool, cwD_bool, gw_true, guardG, opG, inB, sval, stake, eats, eaters, get, cval, cval1, croom, St.taken, put_slot, put_room, dem_none, ↓reduceIte, Nat.reduceEqDiff, Nat.reduceLT, reduceCtorEq, decide_true, List.filterMap_cons, List.filterMap_nil, Option.bind_some, Option.map_some, List.getElem?_cons_zero, List.getElem?_cons_succ, List.contains_cons, List.contains_nil, beq_self_eq_true, Bool.or_false, Nat.reduceBEq, Bool.false_eq_true, dbin, dIntBin, row9, frz9, frzOf_def, frz_nil, List.length_nil, List.length_cons, dcells, Nat.zero_add, Nat.reduceAdd, Bool.and_false, Int.natCast_nonneg, Int.toNat_natCast, and_self, Nat.add_zero, dStrBin, dp3, fa56_0, ia24]
    | (refine drW_intro (by kernel_rfl) ?_)
    | (refine gw_intro (fun h => ?_) (fun h => ?_) <;> (try simp only [beq_true, beq_false, Bool.not_eq_eq_eq_not, Bool.not_true, Bool.not_false, Bool.not_not, decide_eq_true_eq, decide_eq_false_iff_not, ge_iff_le, gt_iff_lt] at h)))
      refine hn _ ⟨i + 1, Hd.mk ⟨by omega, hlt⟩, ?_, ?_, ?_, ?_, ?_, ?_, T⟩ ?_
      · simp only [*, put_slot, dem_slot, ↓reduceIte, reduceCtorEq]
      · simp only [*, put_slot, dem_slot, ↓reduceIte, Nat.reduceEqDiff]
      · simp only [*, put_slot, dem_slot, ↓reduceIte, Nat.reduceEqDiff]
      · simp only [*, put_slot, dem_slot, ↓reduceIte, Nat.reduceEqDiff]
      · simp only [*, put_box, dem_box]
      · simp only [*, put_slot, ↓reduceIte]
      · simp only [slotI, *, put_slot, ↓reduceIte, Int.toNat_natCast]
        omega
    | false =>
      have hs := spF_stop hb
      rw [hs] at hinv'
      have hD : declF ts fr to = R := HR
      unfold declF at hD
      rw [← hinv'] at hD
      -- the loop ends here
      have hend : (i = to) ∨ (i < to ∧ kd ts i ≠ 13) := by
        rcases (by omega : i = to ∨ i < to) with h | h
        · exact .inl h
        · refine .inr ⟨h, fun hk => ?_⟩
          unfold isB at hb
          simp [h, hk] at hb
      have hT : TL ts := HT
      clear hb hs hinv hinv' hn hr HR
      rcases hend with he | ⟨hlt, hne⟩
      · subst he
        have b16 : isB ts i i 16 = false := by unfold isB; simp
        rw [b16, if_neg (by simp)] at hD
        subst hD
        have g1 : ¬ (i : Int) < i := by omega
        have g2 : (i : Int) ≥ i := by omega
        have g3 : (i : Int) ≤ i := by omega
        clear hT b16
        repeat' (first
    | simp only [*, go_nil, go_seq, go_cond, go_exit, go_xcode, go_region, go_ops_nil, go_ops, okG_some, gwD_bool, cwD_bool, gw_false, guardG, opG, inB, sval, stake, eats, eaters, get, cval, cval1, croom, St.taken, put_slot, put_room, dem_none, ↓reduceIte, Nat.reduceEqDiff, Nat.reduceLT, decide_true, decide_false, List.filterMap_cons, List.filterMap_nil, Option.bind_some, Option.map_some, List.getElem?_cons_zero, List.getElem?_cons_succ, List.contains_cons, List.contains_nil, Bool.or_false, Nat.reduceBEq, Bool.false_eq_true, dbin, dIntBin, row9, frz9, frzOf_def, frz_nil, beq_true, dcells, Bool.and_false, dStrBin]
    | (refine drW_intro (by kernel_rfl) ?_)
    | (refine gw_intro (fun h => ?_) (fun h => ?_) <;> (try simp only [beq_true, beq_false, Bool.not_eq_eq_eq_not, Bool.not_true, Bool.not_false, Bool.not_not, decide_eq_true_eq, decide_eq_false_iff_not, ge_iff_le, gt_iff_lt] at h)))
        refine hx _ _ ?_
        unfold De.d
        repeat' (first
    | simp only [*, go_seq, go_cond, go_retc, go_xblk, go_region, go_ops_nil, go_ops, okG_some, okB_some, gwD_bool, cwD_bool, gw_true, gw_false, guardG, opG, inB, sval, stake, eats, eaters, get, cval, cval1, croom, St.taken, put_slot, put_room, put_box, put_none, dem_none, setBox_slot, setBox_box, endQ, endR, endV, rvars, rvar, room1, ↓reduceIte, Nat.reduceEqDiff, Nat.reduceLT, decide_true, List.filterMap_cons, List.filterMap_nil, Option.bind_some, Option.map_some, List.getElem?_cons_zero, List.getElem?_cons_succ, List.contains_cons, List.contains_nil, List.map_cons, List.map_nil, Bool.or_false, Bool.and_true, Nat.reduceBEq, Bool.false_eq_true, dbin, dIntBin, row9, frz9, frzOf_def, frz_nil, beq_false, Bool.not_true, pureB, leaf, leafN, List.all_cons, List.all_nil, List.nil_append, List.append_nil, List.take_nil, List.range_zero, List.length_nil, List.length_cons, List.take_zero, List.drop_zero, List.drop_succ_cons, dcells, Nat.zero_add, Nat.reduceAdd, stepBox, Bool.and_false, and_true, and_self, ge_iff_le, dStrBin, ty41, dp41, bd41_, Nat.le_refl]
    | (refine drW_intro (by kernel_rfl) ?_)
    | (refine gw_intro (fun h => ?_) (fun h => ?_) <;> (try simp only [beq_true, beq_false, Bool.not_eq_eq_eq_not, Bool.not_true, Bool.not_false, Bool.not_not, decide_eq_true_eq, decide_eq_false_iff_not, ge_iff_le, gt_iff_lt] at h)))
        all_goals rfl
      · have bk : (kd ts i == 13) = false := beq_eq_false_iff_ne.2 hne
        have g1 : (i : Int) < to := by omega
        have g1' : ¬ (to : Int) ≤ i := by omega
        have g2 : (i : Int) < ts.length := by omega
        have hg := tk_at ts i (by omega)
        clear hne
        by_cases h16 : kd ts i = 16
        · have b16' : (kd ts i != 16) = false := by rw [h16]; rfl
          have b16 : isB ts i to 16 = true := by unfold isB; simp [hlt, h16]
          rw [b16, if_pos rfl] at hD
          clear b16 h16
          have hwi := wrapS i (by omega)
          have gf : (fr : Int) < ts.length := by omega
          have hg1 := tk_at ts fr (by omega)
          obtain ⟨rl, hLow⟩ := rlower_L (tx ts fr) (by have := hT.txt fr; omega)
          have hQ : callL Try.prog ext9 20 [Tks ts, .int .i64 ((i + 1 : Nat) : Int), .int .i64 (to : Nat)] [] = some (.tuple [.int .i64 ((declQ ts to i).1 : Nat), .int .i64 ((declQ ts to i).2 : Nat)], [.no, .no], []) := rtrim_L ts hl _ _
          have hqle : (declQ ts to i).2 ≤ ts.length ∨ (declQ ts to i).2 ≤ (declQ ts to i).1 := trimF_le ts _ _
          have hq64 : (declQ ts to i).2 ≤ 1000001 := trimF_max ts hl _ _ (by omega)
          generalize declQ ts to i = q at *
          obtain ⟨q1, q2⟩ := q
          have hnm : ((tx ts fr).length : Int) > 1 ∧ (2 : Int) ≤ ((tx ts fr).length : Int) ∧ ((tx ts fr).take 2 == [45, 45]) = true ∧ nameF (tx ts fr) = tx ts fr ∨ ((tx ts fr).length : Int) > 1 ∧ (2 : Int) ≤ ((tx ts fr).length : Int) ∧ ((tx ts fr).take 2 == [45, 45]) = false ∧ nameF (tx ts fr) = lowB (tx ts fr) ∨ ¬ ((tx ts fr).length : Int) > 1 ∧ nameF (tx ts fr) = lowB (tx ts fr) := by
            unfold nameF preB dashes
            by_cases hl2 : 2 ≤ (tx ts fr).length
            · cases hd : (tx ts fr).take 2 == [45, 45] with
              | true => exact .inl ⟨by omega, by omega, rfl, by simp [hl2]⟩
              | false => exact .inr (.inl ⟨by omega, by omega, rfl, by simp [hl2]⟩)
            · exact .inr (.inr ⟨by omega, by simp [hl2]⟩)
          unfold declG declE at hD
          dsimp only at *
          by_cases c1 : q2 ≤ q1
          · rw [if_pos c1] at hD
            have c1' : ¬ (q2 : Int) > q1 := by omega
            have hwq : IntKind.i64.wrap ((q2 : Int) - 1) = (q2 : Int) - 1 := wrap64 _ (by omega) (by omega)
            have hP := rtrim_L ts hl (q1 : Nat) ((q2 : Int) - 1)
            generalize trimF ts (q1 : Nat) ((q2 : Int) - 1) = p at *
            clear hT hqle c1
            rcases hnm with ⟨n0, n3, n1, n2⟩ | ⟨n0, n3, n1, n2⟩ | ⟨n0, n2⟩
            all_goals
              rw [n2] at hD
              subst hD
              clear n2 
              repeat' (first
    | simp only [*, go_nil, go_seq, go_cond, go_exit, go_xcode, go_region, go_ops_nil, go_ops, okG_some, gwD_bool, cwD_bool, gw_true, gw_false, guardG, opG, inB, sval, stake, eats, eaters, get, cval, cval1, croom, St.taken, put_slot, put_room, dem_none, ↓reduceIte, Nat.reduceEqDiff, Nat.reduceLT, reduceCtorEq, decide_true, List.filterMap_cons, List.filterMap_nil, Option.bind_some, Option.map_some, List.getElem?_cons_zero, List.getElem?_cons_succ, List.contains_cons, List.contains_nil, beq_self_eq_true, Bool.or_false, Nat.reduceBEq, Bool.false_eq_true, dbin, dIntBin, row9, frz9, frzOf_def, frz_nil, List.length_nil, List.length_cons, dcells, Nat.zero_add, Nat.reduceAdd, Bool.and_false, Int.natCast_nonneg, Int.toNat_natCast, and_self, Nat.add_zero, dStrBin, dp3, fa56_0, ia24]
    | (refine drW_intro (by kernel_rfl) ?_)
    | (refine gw_intro (fun h => ?_) (fun h => ?_) <;> (try simp only [beq_true, beq_false, Bool.not_eq_eq_eq_not, Bool.not_true, Bool.not_false, Bool.not_not, decide_eq_true_eq, decide_eq_false_iff_not, ge_iff_le, gt_iff_lt] at h)))
              refine hx _ _ ?_
              unfold De.d
              repeat' (first
    | simp only [*, go_seq, go_cond, go_skip, go_retc, go_xblk, go_region, go_ops_nil, go_ops, okG_some, okB_some, gwD_bool, cwD_bool, gw_true, gw_false, guardG, opG, isPtr, inB, sval, stake, eats, eaters, get, cval, cval1, croom, St.taken, put_slot, put_room, put_box, put_ctr, put_none, dem_none, dem_slot, dem_box, dem_room, dem_room1, setBox_slot, setBox_room, setBox_box, endQ, endR, endV, rvars, rvar, room1, ↓reduceIte, Nat.reduceEqDiff, Nat.reduceLT, Nat.reduceLeDiff, reduceCtorEq, decide_true, decide_false, List.filterMap_cons, List.filterMap_nil, Option.bind_some, Option.map_some, Option.map_none, List.getElem?_cons_zero, List.getElem?_cons_succ, List.contains_cons, List.contains_nil, List.map_cons, List.map_nil, beq_self_eq_true, Bool.or_false, Bool.or_true, Bool.and_true, Nat.reduceBEq, Bool.false_eq_true, dbin, dIntBin, okR, callG, row9, frz9, frzOf_def, frz_nil, beq_true, pureB, leaf, leafN, List.all_cons, List.all_nil, List.nil_append, List.cons_append, List.append_nil, List.take_nil, List.range_zero, List.length_nil, List.length_cons, List.take_zero, List.drop_zero, List.take_succ_cons, List.drop_succ_cons, dcells, Nat.zero_add, Nat.reduceAdd, stepBox, Bool.and_false, Int.natCast_nonneg, Int.toNat_natCast, and_self, Nat.add_zero, dopt, dbound, ge_iff_le, gt_iff_lt, dStrBin, Int.reduceLE, Int.reduceToNat, ty3, ty9, dp3, dp9, fa56_0, fa56_3, ia24, ty41, dp41, fp41_0, fp41_1, fp41_2, zr41, bd41_0, len9, sl9, pid0, Nat.le_refl, stepPtr]
    | (refine drW_intro (by kernel_rfl) ?_)
    | (refine gw_intro (fun h => ?_) (fun h => ?_) <;> (try simp only [beq_true, beq_false, Bool.not_eq_eq_eq_not, Bool.not_true, Bool.not_false, Bool.not_not, decide_eq_true_eq, decide_eq_false_iff_not, ge_iff_le, gt_iff_lt] at h)))
          · rw [if_neg c1] at hD
            have c1' : (q2 : Int) > q1 := by omega
            have hq : 0 < q2 ∧ q2 ≤ ts.length := by omega
            have hwq := wM q2 hq.1 (by omega)
            have gq : ((q2 - 1 : Nat) : Int) < ts.length := by omega
            have hg2 := tk_at ts (q2 - 1) (by omega)
            have hP : callL Try.prog ext9 20 [Tks ts, .int .i64 (q1 : Nat), .int .i64 ((q2 - 1 : Nat) : Int)] [] = some (.tuple [.int .i64 ((declP ts (q1, q2)).1 : Nat), .int .i64 ((declP ts (q1, q2)).2 : Nat)], [.no, .no], []) := rtrim_L ts hl _ _
            have hple : (declP ts (q1, q2)).2 ≤ ts.length ∨ (declP ts (q1, q2)).2 ≤ (declP ts (q1, q2)).1 := trimF_le ts _ _
            generalize declP ts (q1, q2) = p at *
            obtain ⟨p1, p2⟩ := p
            dsimp only at *
            by_cases c2 : kd ts (q2 - 1) = 1
            · rw [if_neg (not_not_intro c2)] at hD
              have b2 : (kd ts (q2 - 1) == 1) = true := by rw [c2]; rfl
              obtain ⟨rl2, hLow2⟩ := rlower_L (tx ts (q2 - 1)) (by have := hT.txt (q2 - 1); omega)
              by_cases c3 : lowB (tx ts (q2 - 1)) = wordI
              · rw [if_neg (not_not_intro c3)] at hD
                have b3 : (lowB (tx ts (q2 - 1)) == [105, 109, 112, 111, 114, 116, 97, 110, 116]) = true := beq_iff_eq.2 c3
                clear c3
                by_cases c4 : p2 ≤ p1
                · rw [if_pos c4] at hD
                  have c4' : ¬ (p2 : Int) > p1 := by omega
                  clear hT hqle c1 c2 c4 hple
                  rcases hnm with ⟨n0, n3, n1, n2⟩ | ⟨n0, n3, n1, n2⟩ | ⟨n0, n2⟩
                  all_goals
                    rw [n2] at hD
                    subst hD
                    clear n2 
                    repeat' (first
    | simp only [*, go_nil, go_seq, go_cond, go_exit, go_xcode, go_region, go_ops_nil, go_ops, okG_some, gwD_bool, cwD_bool, gw_true, gw_false, guardG, opG, inB, sval, stake, eats, eaters, get, cval, cval1, croom, St.taken, put_slot, put_room, dem_none, ↓reduceIte, Nat.reduceEqDiff, Nat.reduceLT, reduceCtorEq, decide_true, List.filterMap_cons, List.filterMap_nil, Option.bind_some, Option.map_some, List.getElem?_cons_zero, List.getElem?_cons_succ, List.contains_cons, List.contains_nil, beq_self_eq_true, Bool.or_false, Nat.reduceBEq, Bool.false_eq_true, dbin, dIntBin, row9, frz9, frzOf_def, frz_nil, List.length_nil, List.length_cons, dcells, Nat.zero_add, Nat.reduceAdd, Bool.and_false, Int.natCast_nonneg, Int.toNat_natCast, and_self, Nat.add_zero, dStrBin, dp3, fa56_0, ia24]
    | (refine drW_intro (by kernel_rfl) ?_)
    | (refine gw_intro (fun h => ?_) (fun h => ?_) <;> (try simp only [beq_true, beq_false, Bool.not_eq_eq_eq_not, Bool.not_true, Bool.not_false, Bool.not_not, decide_eq_true_eq, decide_eq_false_iff_not, ge_iff_le, gt_iff_lt] at h)))
                    refine hx _ _ ?_
                    unfold De.d
                    repeat' (first
    | simp only [*, go_seq, go_cond, go_skip, go_retc, go_xblk, go_region, go_ops_nil, go_ops, okG_some, okB_some, gwD_bool, cwD_bool, gw_true, gw_false, guardG, opG, isPtr, inB, sval, stake, eats, eaters, get, cval, cval1, croom, St.taken, put_slot, put_room, put_box, put_ctr, put_none, dem_none, dem_slot, dem_box, dem_room, dem_room1, setBox_slot, setBox_room, setBox_box, endQ, endR, endV, rvars, rvar, room1, ↓reduceIte, Nat.reduceEqDiff, Nat.reduceLT, Nat.reduceLeDiff, reduceCtorEq, decide_true, decide_false, List.filterMap_cons, List.filterMap_nil, Option.bind_some, Option.map_some, Option.map_none, List.getElem?_cons_zero, List.getElem?_cons_succ, List.contains_cons, List.contains_nil, List.map_cons, List.map_nil, beq_self_eq_true, Bool.or_false, Bool.or_true, Bool.and_true, Nat.reduceBEq, Bool.false_eq_true, dbin, dIntBin, okR, callG, row9, frz9, frzOf_def, frz_nil, beq_true, pureB, leaf, leafN, List.all_cons, List.all_nil, List.nil_append, List.cons_append, List.append_nil, List.take_nil, List.range_zero, List.length_nil, List.length_cons, List.take_zero, List.drop_zero, List.take_succ_cons, List.drop_succ_cons, dcells, Nat.zero_add, Nat.reduceAdd, stepBox, Bool.and_false, Int.natCast_nonneg, Int.toNat_natCast, and_self, Nat.add_zero, dopt, dbound, ge_iff_le, gt_iff_lt, dStrBin, Int.reduceLE, Int.reduceToNat, ty3, ty9, dp3, dp9, fa56_0, fa56_3, ia24, ty41, dp41, fp41_0, fp41_1, fp41_2, zr41, bd41_0, len9, sl9, pid0, Nat.le_refl, stepPtr]
    | (refine drW_intro (by kernel_rfl) ?_)
    | (refine gw_intro (fun h => ?_) (fun h => ?_) <;> (try simp only [beq_true, beq_false, Bool.not_eq_eq_eq_not, Bool.not_true, Bool.not_false, Bool.not_not, decide_eq_true_eq, decide_eq_false_iff_not, ge_iff_le, gt_iff_lt] at h)))
                · rw [if_neg c4] at hD
                  have c4' : (p2 : Int) > p1 := by omega
                  have hp : 0 < p2 ∧ p2 ≤ ts.length := by omega
                  have hwp := wM p2 hp.1 (by omega)
                  have g3 : ((p2 - 1 : Nat) : Int) < ts.length := by omega
                  have hg3 := tk_at ts (p2 - 1) (by omega)
                  by_cases c5 : kd ts (p2 - 1) = 9
                  · rw [if_neg (not_not_intro c5)] at hD
                    have b5 : (kd ts (p2 - 1) == 9) = true := beq_iff_eq.2 c5
                    by_cases c6 : tx ts (p2 - 1) = [33]
                    · rw [if_neg (not_not_intro c6)] at hD
                      have b6 : (tx ts (p2 - 1) == [33]) = true := beq_iff_eq.2 c6
                      have hZ : callL Try.prog ext9 20 [Tks ts, .int .i64 (q1 : Nat), .int .i64 ((p2 - 1 : Nat) : Int)] [] = some (.tuple [.int .i64 ((declZ ts (q1, q2) (p1, p2)).1 : Nat), .int .i64 ((declZ ts (q1, q2) (p1, p2)).2 : Nat)], [.no, .no], []) := rtrim_L ts hl _ _
                      generalize declZ ts (q1, q2) (p1, p2) = z at *
                      obtain ⟨z1, z2⟩ := z
                      dsimp only at *
                      clear hT hqle c1 c2 c4 hple c5 c6
                      rcases hnm with ⟨n0, n3, n1, n2⟩ | ⟨n0, n3, n1, n2⟩ | ⟨n0, n2⟩
                      all_goals
                        rw [n2] at hD
                        subst hD
                        clear n2 
                        repeat' (first
    | simp only [*, go_nil, go_seq, go_cond, go_exit, go_xcode, go_region, go_ops_nil, go_ops, okG_some, gwD_bool, cwD_bool, gw_true, gw_false, guardG, opG, inB, sval, stake, eats, eaters, get, cval, cval1, croom, St.taken, put_slot, put_room, dem_none, ↓reduceIte, Nat.reduceEqDiff, Nat.reduceLT, reduceCtorEq, decide_true, List.filterMap_cons, List.filterMap_nil, Option.bind_some, Option.map_some, List.getElem?_cons_zero, List.getElem?_cons_succ, List.contains_cons, List.contains_nil, beq_self_eq_true, Bool.or_false, Nat.reduceBEq, Bool.false_eq_true, dbin, dIntBin, row9, frz9, frzOf_def, frz_nil, List.length_nil, List.length_cons, dcells, Nat.zero_add, Nat.reduceAdd, Bool.and_false, Int.natCast_nonneg, Int.toNat_natCast, and_self, Nat.add_zero, dStrBin, dp3, fa56_0, ia24]
    | (refine drW_intro (by kernel_rfl) ?_)
    | (refine gw_intro (fun h => ?_) (fun h => ?_) <;> (try simp only [beq_true, beq_false, Bool.not_eq_eq_eq_not, Bool.not_true, Bool.not_false, Bool.not_not, decide_eq_true_eq, decide_eq_false_iff_not, ge_iff_le, gt_iff_lt] at h)))
                        refine hx _ _ ?_
                        unfold De.d
                        repeat' (first
    | simp only [*, go_seq, go_cond, go_skip, go_retc, go_xblk, go_region, go_ops_nil, go_ops, okG_some, okB_some, gwD_bool, cwD_bool, gw_true, gw_false, guardG, opG, isPtr, inB, sval, stake, eats, eaters, get, cval, cval1, croom, St.taken, put_slot, put_room, put_box, put_ctr, put_none, dem_none, dem_slot, dem_box, dem_room, dem_room1, setBox_slot, setBox_room, setBox_box, endQ, endR, endV, rvars, rvar, room1, ↓reduceIte, Nat.reduceEqDiff, Nat.reduceLT, Nat.reduceLeDiff, reduceCtorEq, decide_true, decide_false, List.filterMap_cons, List.filterMap_nil, Option.bind_some, Option.map_some, Option.map_none, List.getElem?_cons_zero, List.getElem?_cons_succ, List.contains_cons, List.contains_nil, List.map_cons, List.map_nil, beq_self_eq_true, Bool.or_false, Bool.or_true, Bool.and_true, Nat.reduceBEq, Bool.false_eq_true, dbin, dIntBin, okR, callG, row9, frz9, frzOf_def, frz_nil, beq_true, pureB, leaf, leafN, List.all_cons, List.all_nil, List.nil_append, List.cons_append, List.append_nil, List.take_nil, List.range_zero, List.length_nil, List.length_cons, List.take_zero, List.drop_zero, List.take_succ_cons, List.drop_succ_cons, dcells, Nat.zero_add, Nat.reduceAdd, stepBox, Bool.and_false, Int.natCast_nonneg, Int.toNat_natCast, and_self, Nat.add_zero, dopt, dbound, ge_iff_le, gt_iff_lt, dStrBin, Int.reduceLE, Int.reduceToNat, ty3, ty4, ty9, dp3, dp9, fa56_0, fa56_3, ia24, ty41, dp41, fp41_0, fp41_1, fp41_2, fp41_3, zr41, bd41_0, len9, sl9, pid0, Nat.le_refl, stepPtr]
    | (refine drW_intro (by kernel_rfl) ?_)
    | (refine gw_intro (fun h => ?_) (fun h => ?_) <;> (try simp only [beq_true, beq_false, Bool.not_eq_eq_eq_not, Bool.not_true, Bool.not_false, Bool.not_not, decide_eq_true_eq, decide_eq_false_iff_not, ge_iff_le, gt_iff_lt] at h)))
                    · rw [if_pos c6] at hD
                      have b6 : (tx ts (p2 - 1) == [33]) = false := beq_eq_false_iff_ne.2 c6
                      clear hT hqle c1 c2 c4 hple c5 c6
                      rcases hnm with ⟨n0, n3, n1, n2⟩ | ⟨n0, n3, n1, n2⟩ | ⟨n0, n2⟩
                      all_goals
                        rw [n2] at hD
                        subst hD
                        clear n2 
                        repeat' (first
    | simp only [*, go_nil, go_seq, go_cond, go_exit, go_xcode, go_region, go_ops_nil, go_ops, okG_some, gwD_bool, cwD_bool, gw_true, gw_false, guardG, opG, inB, sval, stake, eats, eaters, get, cval, cval1, croom, St.taken, put_slot, put_room, dem_none, ↓reduceIte, Nat.reduceEqDiff, Nat.reduceLT, reduceCtorEq, decide_true, List.filterMap_cons, List.filterMap_nil, Option.bind_some, Option.map_some, List.getElem?_cons_zero, List.getElem?_cons_succ, List.contains_cons, List.contains_nil, beq_self_eq_true, Bool.or_false, Nat.reduceBEq, Bool.false_eq_true, dbin, dIntBin, row9, frz9, frzOf_def, frz_nil, List.length_nil, List.length_cons, dcells, Nat.zero_add, Nat.reduceAdd, Bool.and_false, Int.natCast_nonneg, Int.toNat_natCast, and_self, Nat.add_zero, dStrBin, dp3, fa56_0, ia24]
    | (refine drW_intro (by kernel_rfl) ?_)
    | (refine gw_intro (fun h => ?_) (fun h => ?_) <;> (try simp only [beq_true, beq_false, Bool.not_eq_eq_eq_not, Bool.not_true, Bool.not_false, Bool.not_not, decide_eq_true_eq, decide_eq_false_iff_not, ge_iff_le, gt_iff_lt] at h)))
                        refine hx _ _ ?_
                        unfold De.d
                        repeat' (first
    | simp only [*, go_seq, go_cond, go_skip, go_retc, go_xblk, go_region, go_ops_nil, go_ops, okG_some, okB_some, gwD_bool, cwD_bool, gw_true, gw_false, guardG, opG, isPtr, inB, sval, stake, eats, eaters, get, cval, cval1, croom, St.taken, put_slot, put_room, put_box, put_ctr, put_none, dem_none, dem_slot, dem_box, dem_room, dem_room1, setBox_slot, setBox_room, setBox_box, endQ, endR, endV, rvars, rvar, room1, ↓reduceIte, Nat.reduceEqDiff, Nat.reduceLT, Nat.reduceLeDiff, reduceCtorEq, decide_true, decide_false, List.filterMap_cons, List.filterMap_nil, Option.bind_some, Option.map_some, Option.map_none, List.getElem?_cons_zero, List.getElem?_cons_succ, List.contains_cons, List.contains_nil, List.map_cons, List.map_nil, beq_self_eq_true, Bool.or_false, Bool.or_true, Bool.and_true, Nat.reduceBEq, Bool.false_eq_true, dbin, dIntBin, okR, callG, row9, frz9, frzOf_def, frz_nil, beq_true, pureB, leaf, leafN, List.all_cons, List.all_nil, List.nil_append, List.cons_append, List.append_nil, List.take_nil, List.range_zero, List.length_nil, List.length_cons, List.take_zero, List.drop_zero, List.take_succ_cons, List.drop_succ_cons, dcells, Nat.zero_add, Nat.reduceAdd, stepBox, Bool.and_false, Int.natCast_nonneg, Int.toNat_natCast, and_self, Nat.add_zero, dopt, dbound, ge_iff_le, gt_iff_lt, dStrBin, Int.reduceLE, Int.reduceToNat, ty3, ty9, dp3, dp9, fa56_0, fa56_3, ia24, ty41, dp41, fp41_0, fp41_1, fp41_2, zr41, bd41_0, len9, sl9, pid0, Nat.le_refl, stepPtr]
    | (refine drW_intro (by kernel_rfl) ?_)
    | (refine gw_intro (fun h => ?_) (fun h => ?_) <;> (try simp only [beq_true, beq_false, Bool.not_eq_eq_eq_not, Bool.not_true, Bool.not_false, Bool.not_not, decide_eq_true_eq, decide_eq_false_iff_not, ge_iff_le, gt_iff_lt] at h)))
                  · rw [if_pos c5] at hD
                    have b5 : (kd ts (p2 - 1) == 9) = false := beq_eq_false_iff_ne.2 c5
                    clear hT hqle c1 c2 c4 hple c5
                    rcases hnm with ⟨n0, n3, n1, n2⟩ | ⟨n0, n3, n1, n2⟩ | ⟨n0, n2⟩
                    all_goals
                      rw [n2] at hD
                      subst hD
                      clear n2 
                      repeat' (first
    | simp only [*, go_nil, go_seq, go_cond, go_exit, go_xcode, go_region, go_ops_nil, go_ops, okG_some, gwD_bool, cwD_bool, gw_true, gw_false, guardG, opG, inB, sval, stake, eats, eaters, get, cval, cval1, croom, St.taken, put_slot, put_room, dem_none, ↓reduceIte, Nat.reduceEqDiff, Nat.reduceLT, reduceCtorEq, decide_true, List.filterMap_cons, List.filterMap_nil, Option.bind_some, Option.map_some, List.getElem?_cons_zero, List.getElem?_cons_succ, List.contains_cons, List.contains_nil, beq_self_eq_true, Bool.or_false, Nat.reduceBEq, Bool.false_eq_true, dbin, dIntBin, row9, frz9, frzOf_def, frz_nil, List.length_nil, List.length_cons, dcells, Nat.zero_add, Nat.reduceAdd, Bool.and_false, Int.natCast_nonneg, Int.toNat_natCast, and_self, Nat.add_zero, dStrBin, dp3, fa56_0, ia24]
    | (refine drW_intro (by kernel_rfl) ?_)
    | (refine gw_intro (fun h => ?_) (fun h => ?_) <;> (try simp only [beq_true, beq_false, Bool.not_eq_eq_eq_not, Bool.not_true, Bool.not_false, Bool.not_not, decide_eq_true_eq, decide_eq_false_iff_not, ge_iff_le, gt_iff_lt] at h)))
                      refine hx _ _ ?_
                      unfold De.d
                      repeat' (first
    | simp only [*, go_seq, go_cond, go_skip, go_retc, go_xblk, go_region, go_ops_nil, go_ops, okG_some, okB_some, gwD_bool, cwD_bool, gw_true, gw_false, guardG, opG, isPtr, inB, sval, stake, eats, eaters, get, cval, cval1, croom, St.taken, put_slot, put_room, put_box, put_ctr, put_none, dem_none, dem_slot, dem_box, dem_room, dem_room1, setBox_slot, setBox_room, setBox_box, endQ, endR, endV, rvars, rvar, room1, ↓reduceIte, Nat.reduceEqDiff, Nat.reduceLT, Nat.reduceLeDiff, reduceCtorEq, decide_true, decide_false, List.filterMap_cons, List.filterMap_nil, Option.bind_some, Option.map_some, Option.map_none, List.getElem?_cons_zero, List.getElem?_cons_succ, List.contains_cons, List.contains_nil, List.map_cons, List.map_nil, beq_self_eq_true, Bool.or_false, Bool.or_true, Bool.and_true, Nat.reduceBEq, Bool.false_eq_true, dbin, dIntBin, okR, callG, row9, frz9, frzOf_def, frz_nil, beq_true, pureB, leaf, leafN, List.all_cons, List.all_nil, List.nil_append, List.cons_append, List.append_nil, List.take_nil, List.range_zero, List.length_nil, List.length_cons, List.take_zero, List.drop_zero, List.take_succ_cons, List.drop_succ_cons, dcells, Nat.zero_add, Nat.reduceAdd, stepBox, Bool.and_false, Int.natCast_nonneg, Int.toNat_natCast, and_self, Nat.add_zero, dopt, dbound, ge_iff_le, gt_iff_lt, dStrBin, Int.reduceLE, Int.reduceToNat, ty3, ty9, dp3, dp9, fa56_0, fa56_3, ia24, ty41, dp41, fp41_0, fp41_1, fp41_2, zr41, bd41_0, len9, sl9, pid0, Nat.le_refl, stepPtr]
    | (refine drW_intro (by kernel_rfl) ?_)
    | (refine gw_intro (fun h => ?_) (fun h => ?_) <;> (try simp only [beq_true, beq_false, Bool.not_eq_eq_eq_not, Bool.not_true, Bool.not_false, Bool.not_not, decide_eq_true_eq, decide_eq_false_iff_not, ge_iff_le, gt_iff_lt] at h)))
              · rw [if_pos c3] at hD
                have b3 : (lowB (tx ts (q2 - 1)) == [105, 109, 112, 111, 114, 116, 97, 110, 116]) = false := beq_eq_false_iff_ne.2 c3
                clear hT hqle c1 c2 c3 hple
                rcases hnm with ⟨n0, n3, n1, n2⟩ | ⟨n0, n3, n1, n2⟩ | ⟨n0, n2⟩
                all_goals
                  rw [n2] at hD
                  subst hD
                  clear n2 
                  repeat' (first
    | simp only [*, go_nil, go_seq, go_cond, go_exit, go_xcode, go_region, go_ops_nil, go_ops, okG_some, gwD_bool, cwD_bool, gw_true, gw_false, guardG, opG, inB, sval, stake, eats, eaters, get, cval, cval1, croom, St.taken, put_slot, put_room, dem_none, ↓reduceIte, Nat.reduceEqDiff, Nat.reduceLT, reduceCtorEq, decide_true, List.filterMap_cons, List.filterMap_nil, Option.bind_some, Option.map_some, List.getElem?_cons_zero, List.getElem?_cons_succ, List.contains_cons, List.contains_nil, beq_self_eq_true, Bool.or_false, Nat.reduceBEq, Bool.false_eq_true, dbin, dIntBin, row9, frz9, frzOf_def, frz_nil, List.length_nil, List.length_cons, dcells, Nat.zero_add, Nat.reduceAdd, Bool.and_false, Int.natCast_nonneg, Int.toNat_natCast, and_self, Nat.add_zero, dStrBin, dp3, fa56_0, ia24]
    | (refine drW_intro (by kernel_rfl) ?_)
    | (refine gw_intro (fun h => ?_) (fun h => ?_) <;> (try simp only [beq_true, beq_false, Bool.not_eq_eq_eq_not, Bool.not_true, Bool.not_false, Bool.not_not, decide_eq_true_eq, decide_eq_false_iff_not, ge_iff_le, gt_iff_lt] at h)))
                  refine hx _ _ ?_
                  unfold De.d
                  repeat' (first
    | simp only [*, go_seq, go_cond, go_skip, go_retc, go_xblk, go_region, go_ops_nil, go_ops, okG_some, okB_some, gwD_bool, cwD_bool, gw_true, gw_false, guardG, opG, isPtr, inB, sval, stake, eats, eaters, get, cval, cval1, croom, St.taken, put_slot, put_room, put_box, put_ctr, put_none, dem_none, dem_slot, dem_box, dem_room, dem_room1, setBox_slot, setBox_room, setBox_box, endQ, endR, endV, rvars, rvar, room1, ↓reduceIte, Nat.reduceEqDiff, Nat.reduceLT, Nat.reduceLeDiff, reduceCtorEq, decide_true, decide_false, List.filterMap_cons, List.filterMap_nil, Option.bind_some, Option.map_some, Option.map_none, List.getElem?_cons_zero, List.getElem?_cons_succ, List.contains_cons, List.contains_nil, List.map_cons, List.map_nil, beq_self_eq_true, Bool.or_false, Bool.or_true, Bool.and_true, Nat.reduceBEq, Bool.false_eq_true, dbin, dIntBin, okR, callG, row9, frz9, frzOf_def, frz_nil, beq_true, pureB, leaf, leafN, List.all_cons, List.all_nil, List.nil_append, List.cons_append, List.append_nil, List.take_nil, List.range_zero, List.length_nil, List.length_cons, List.take_zero, List.drop_zero, List.take_succ_cons, List.drop_succ_cons, dcells, Nat.zero_add, Nat.reduceAdd, stepBox, Bool.and_false, Int.natCast_nonneg, Int.toNat_natCast, and_self, Nat.add_zero, dopt, dbound, ge_iff_le, gt_iff_lt, dStrBin, Int.reduceLE, Int.reduceToNat, ty3, ty9, dp3, dp9, fa56_0, fa56_3, ia24, ty41, dp41, fp41_0, fp41_1, fp41_2, zr41, bd41_0, len9, sl9, pid0, Nat.le_refl, stepPtr]
    | (refine drW_intro (by kernel_rfl) ?_)
    | (refine gw_intro (fun h => ?_) (fun h => ?_) <;> (try simp only [beq_true, beq_false, Bool.not_eq_eq_eq_not, Bool.not_true, Bool.not_false, Bool.not_not, decide_eq_true_eq, decide_eq_false_iff_not, ge_iff_le, gt_iff_lt] at h)))
            · rw [if_pos c2] at hD
              have b2 : (kd ts (q2 - 1) == 1) = false := by simpa using c2
              clear hT hqle c1 c2 hple
              rcases hnm with ⟨n0, n3, n1, n2⟩ | ⟨n0, n3, n1, n2⟩ | ⟨n0, n2⟩
              all_goals
                rw [n2] at hD
                subst hD
                clear n2 
                repeat' (first
    | simp only [*, go_nil, go_seq, go_cond, go_exit, go_xcode, go_region, go_ops_nil, go_ops, okG_some, gwD_bool, cwD_bool, gw_true, gw_false, guardG, opG, inB, sval, stake, eats, eaters, get, cval, cval1, croom, St.taken, put_slot, put_room, dem_none, ↓reduceIte, Nat.reduceEqDiff, Nat.reduceLT, reduceCtorEq, decide_true, List.filterMap_cons, List.filterMap_nil, Option.bind_some, Option.map_some, List.getElem?_cons_zero, List.getElem?_cons_succ, List.contains_cons, List.contains_nil, beq_self_eq_true, Bool.or_false, Nat.reduceBEq, Bool.false_eq_true, dbin, dIntBin, row9, frz9, frzOf_def, frz_nil, List.length_nil, List.length_cons, dcells, Nat.zero_add, Nat.reduceAdd, Bool.and_false, Int.natCast_nonneg, Int.toNat_natCast, and_self, Nat.add_zero, dStrBin, dp3, fa56_0, ia24]
    | (refine drW_intro (by kernel_rfl) ?_)
    | (refine gw_intro (fun h => ?_) (fun h => ?_) <;> (try simp only [beq_true, beq_false, Bool.not_eq_eq_eq_not, Bool.not_true, Bool.not_false, Bool.not_not, decide_eq_true_eq, decide_eq_false_iff_not, ge_iff_le, gt_iff_lt] at h)))
                refine hx _ _ ?_
                unfold De.d
                repeat' (first
    | simp only [*, go_seq, go_cond, go_skip, go_retc, go_xblk, go_region, go_ops_nil, go_ops, okG_some, okB_some, gwD_bool, cwD_bool, gw_true, gw_false, guardG, opG, isPtr, inB, sval, stake, eats, eaters, get, cval, cval1, croom, St.taken, put_slot, put_room, put_box, put_ctr, put_none, dem_none, dem_slot, dem_box, dem_room, dem_room1, setBox_slot, setBox_room, setBox_box, endQ, endR, endV, rvars, rvar, room1, ↓reduceIte, Nat.reduceEqDiff, Nat.reduceLT, Nat.reduceLeDiff, reduceCtorEq, decide_true, decide_false, List.filterMap_cons, List.filterMap_nil, Option.bind_some, Option.map_some, Option.map_none, List.getElem?_cons_zero, List.getElem?_cons_succ, List.contains_cons, List.contains_nil, List.map_cons, List.map_nil, beq_self_eq_true, Bool.or_false, Bool.or_true, Bool.and_true, Nat.reduceBEq, Bool.false_eq_true, dbin, dIntBin, okR, callG, row9, frz9, frzOf_def, frz_nil, beq_true, pureB, leaf, leafN, List.all_cons, List.all_nil, List.nil_append, List.cons_append, List.append_nil, List.take_nil, List.range_zero, List.length_nil, List.length_cons, List.take_zero, List.drop_zero, List.take_succ_cons, List.drop_succ_cons, dcells, Nat.zero_add, Nat.reduceAdd, stepBox, Bool.and_false, Int.natCast_nonneg, Int.toNat_natCast, and_self, Nat.add_zero, dopt, dbound, ge_iff_le, gt_iff_lt, dStrBin, Int.reduceLE, Int.reduceToNat, ty3, ty9, dp3, dp9, fa56_0, fa56_3, ia24, ty41, dp41, fp41_0, fp41_1, fp41_2, zr41, bd41_0, len9, sl9, pid0, Nat.le_refl, stepPtr]
    | (refine drW_intro (by kernel_rfl) ?_)
    | (refine gw_intro (fun h => ?_) (fun h => ?_) <;> (try simp only [beq_true, beq_false, Bool.not_eq_eq_eq_not, Bool.not_true, Bool.not_false, Bool.not_not, decide_eq_true_eq, decide_eq_false_iff_not, ge_iff_le, gt_iff_lt] at h)))
        · have b16' : (kd ts i != 16) = true := by simpa using h16
          have b16 : isB ts i to 16 = false := by unfold isB; simp [h16]
          rw [b16, if_neg (by simp)] at hD
          subst hD
          clear hT b16 h16
          repeat' (first
    | simp only [*, go_nil, go_seq, go_cond, go_exit, go_xcode, go_region, go_ops_nil, go_ops, okG_some, gwD_bool, cwD_bool, gw_true, gw_false, guardG, opG, inB, sval, stake, eats, eaters, get, cval, cval1, croom, St.taken, put_slot, put_room, dem_none, ↓reduceIte, Nat.reduceEqDiff, Nat.reduceLT, reduceCtorEq, decide_true, List.filterMap_cons, List.filterMap_nil, Option.bind_some, Option.map_some, List.getElem?_cons_zero, List.getElem?_cons_succ, List.contains_cons, List.contains_nil, beq_self_eq_true, Bool.or_false, Nat.reduceBEq, Bool.false_eq_true, dbin, dIntBin, row9, frz9, frzOf_def, frz_nil, List.length_nil, List.length_cons, dcells, Nat.zero_add, Nat.reduceAdd, Bool.and_false, Int.natCast_nonneg, Int.toNat_natCast, and_self, Nat.add_zero, dStrBin, dp3, fa56_0, ia24]
    | (refine drW_intro (by kernel_rfl) ?_)
    | (refine gw_intro (fun h => ?_) (fun h => ?_) <;> (try simp only [beq_true, beq_false, Bool.not_eq_eq_eq_not, Bool.not_true, Bool.not_false, Bool.not_not, decide_eq_true_eq, decide_eq_false_iff_not, ge_iff_le, gt_iff_lt] at h)))
          refine hx _ _ ?_
          unfold De.d
          repeat' (first
    | simp only [*, go_seq, go_cond, go_retc, go_xblk, go_region, go_ops_nil, go_ops, okG_some, okB_some, gwD_bool, cwD_bool, gw_true, guardG, opG, inB, sval, stake, eats, eaters, get, cval, cval1, croom, St.taken, put_slot, put_room, put_box, put_none, dem_none, setBox_slot, setBox_box, endQ, endR, endV, rvars, rvar, room1, ↓reduceIte, Nat.reduceEqDiff, Nat.reduceLT, reduceCtorEq, decide_true, decide_false, List.filterMap_cons, List.filterMap_nil, Option.bind_some, Option.map_some, List.getElem?_cons_zero, List.getElem?_cons_succ, List.contains_cons, List.contains_nil, List.map_cons, List.map_nil, beq_self_eq_true, Bool.or_false, Bool.and_true, Nat.reduceBEq, Bool.false_eq_true, dbin, dIntBin, row9, frz9, frzOf_def, frz_nil, pureB, leaf, leafN, List.all_cons, List.all_nil, List.nil_append, List.append_nil, List.take_nil, List.range_zero, List.length_nil, List.length_cons, List.take_zero, List.drop_zero, List.drop_succ_cons, dcells, Nat.zero_add, Nat.reduceAdd, stepBox, Bool.and_false, and_true, Int.natCast_nonneg, Int.toNat_natCast, and_self, Nat.add_zero, ge_iff_le, dStrBin, dp3, fa56_0, ia24, ty41, dp41, bd41_, Nat.le_refl]
    | (refine drW_intro (by kernel_rfl) ?_)
    | (refine gw_intro (fun h => ?_) (fun h => ?_) <;> (try simp only [beq_true, beq_false, Bool.not_eq_eq_eq_not, Bool.not_true, Bool.not_false, Bool.not_not, decide_eq_true_eq, decide_eq_false_iff_not, ge_iff_le, gt_iff_lt] at h)))
          all_goals rfl
end Go.Av
/- Chapter 19: the declarations of a part: the program's text. -/
set_option linter.unusedSimpArgs false
set_option linter.unusedVariables false
set_option linter.unusedSectionVars false
set_option maxRecDepth 100000
namespace Go.Av
open Go.Proofs Go.Proofs.Ytaldmffahmomoaa Go.RowKit
/-- Where a declaration ends. -/
def semiE (ts : List Tk) (e a : Nat) : Nat := untilF (kd ts) e (or2 17 17) a
def declsN (ts : List Tk) (e : Nat) : Nat → Nat → List De
  | 0, _ => []
  | n + 1, a => if a < e then
      (if kd ts a = 13 ∨ kd ts a = 17 then declsN ts e n (a + 1)
       else if kd ts a = 3 then declsN ts e n (atRuleF ts e a).2
       else if kd ts a = 1 ∧ (declF ts a (semiE ts e a)).2 = true then (declF ts a (semiE ts e a)).1 :: declsN ts e n (semiE ts e a) else declsN ts e n (semiE ts e a))
    else []
def declsF (ts : List Tk) (e a : Nat) : List De := declsN ts e (e - a) a
theorem semiE_pos {ts : List Tk} {e a : Nat} (h : a < e) (hk : kd ts a ≠ 17) : a < semiE ts e a ∧ semiE ts e a ≤ e := by
  have hp := behindF_pos (ks := kd ts) h
  have h1 : semiE ts e a = untilF (kd ts) e (or2 17 17) (behindF (kd ts) e a).1 := untilF_step h (by unfold or2; rw [beq_eq_false_iff_ne.2 hk]; rfl)
  have h2 := untilF_ge (ks := kd ts) (e := e) (or2 17 17) (behindF (kd ts) e a).1
  rw [h1]
  omega
theorem declsN_fuel {ts : List Tk} {e : Nat} : ∀ (n m a : Nat), e - a ≤ n → e - a ≤ m → declsN ts e n a = declsN ts e m a
  | 0, 0, _, _, _ => rfl
  | 0, m + 1, a, h, _ => by
    unfold declsN
    rw [if_neg (by omega)]
  | n + 1, 0, a, _, h => by
    unfold declsN
    rw [if_neg (by omega)]
  | n + 1, m + 1, a, h1, h2 => by
    unfold declsN
    by_cases h : a < e
    · rw [if_pos h, if_pos h]
      have p1 := atRuleF_pos (ts := ts) h
      rw [declsN_fuel n m (a + 1) (by omega) (by omega), declsN_fuel n m (atRuleF ts e a).2 (by omega) (by omega)]
      by_cases hk : kd ts a = 13 ∨ kd ts a = 17
      · rw [if_pos hk, if_pos hk]
      · have p2 := semiE_pos (ts := ts) h (fun hh => hk (.inr hh))
        rw [declsN_fuel n m (semiE ts e a) (by omega) (by omega)]
    · rw [if_neg h, if_neg h]
theorem declsF_end {ts : List Tk} {e a : Nat} (h : e ≤ a) : declsF ts e a = [] := by
  unfold declsF
  rw [show e - a = 0 by omega]
  rfl
theorem declsF_step {ts : List Tk} {e a : Nat} (h : a < e) : declsF ts e a =
    if kd ts a = 13 ∨ kd ts a = 17 then declsF ts e (a + 1)
       else if kd ts a = 3 then declsF ts e (atRuleF ts e a).2
       else if kd ts a = 1 ∧ (declF ts a (semiE ts e a)).2 = true then (declF ts a (semiE ts e a)).1 :: declsF ts e (semiE ts e a) else declsF ts e (semiE ts e a) := by
  have p1 := atRuleF_pos (ts := ts) h
  have e1 : declsF ts e a = declsN ts e ((e - a - 1) + 1) a := by unfold declsF; congr 1; omega
  rw [e1, declsN, if_pos h]
  unfold declsF
  rw [declsN_fuel (e - a - 1) (e - (a + 1)) (a + 1) (by omega) (by omega), declsN_fuel (e - a - 1) (e - (atRuleF ts e a).2) (atRuleF ts e a).2 (by omega) (by omega)]
  by_cases hk : kd ts a = 13 ∨ kd ts a = 17
  · rw [if_pos hk, if_pos hk]
  · have p2 := semiE_pos (ts := ts) h (fun hh => hk (.inr hh))
    rw [declsN_fuel (e - a - 1) (e - semiE ts e a) (semiE ts e a) (by omega) (by omega)]
theorem szDe (rs : List De) : szOk 4 (rs.map De.d) = true := by cases rs <;> rfl
theorem snocDe (rs : List De) (r : De) : rs.map De.d ++ [.agg [.str r.name, .int .i64 (r.fr : Nat), .int .i64 (r.to : Nat), .bool r.imp]] = (rs ++ [r]).map De.d := by simp [De.d]
set_option maxHeartbeats 16000000 in
theorem decls_L {ts : List Tk} (hT : TL ts) (fr to : Int) : ∃ r, callL Try.prog ext9 15 [Tks ts, .int .i64 fr, .int .i64 to] [] =
    some (.list ((declsF ts (cutF ts fr to).2 (cutF ts fr to).1).map De.d), [r], []) := by
  have hl := hT.len
  have hP := part_L ts hl fr to
  have hle := cutF_le ts fr to
  have hge := cutF_ge ts fr to
  have lN := TkLen ts
  generalize (cutF ts fr to).1 = a at *
  generalize (cutF ts fr to).2 = e at *
  refine ⟨if declsF ts e a = [] then .full else .own 41, ?_⟩
  obtain ⟨all, hall⟩ : ∃ all, Hid (declsF ts e a = all) := ⟨_, rfl⟩
  rw [hall.out]
  have hT' := Hd.mk hT
  clear hT
  refine callK (m := 64) (res := [6]) (rs := [.tmp 6]) rfl Try.func15 rfl rfl rfl rfl rfl ?_
  repeat' (first
    | simp only [*, go_seq, go_block, go_loop, go_region, go_ops_nil, go_ops, okG_some, guardG, opG, isPtr, inB, sval, stake, eats, eaters, get, cval, cval1, croom, St.taken, put_slot, put_room, put_ctr, dem_none, setBox_slot, setBox_room, entry_slot, entry_ctr, ↓reduceIte, Nat.reduceEqDiff, Nat.reduceLT, reduceCtorEq, decide_true, List.filterMap_cons, List.filterMap_nil, List.getD_cons_zero, List.getD_cons_succ, List.contains_cons, List.contains_nil, List.map_cons, List.map_nil, Bool.or_false, Bool.and_true, Nat.reduceBEq, Bool.false_eq_true, okR, callG, row9, frz9, frzOf_def, frz_nil, pureB, leaf, leafN, List.all_cons, List.all_nil, List.nil_append, List.append_nil, List.length_nil, Nat.reduceAdd, Bool.and_false]
    | (refine drW_intro (by kernel_rfl) ?_)
    | (refine gw_intro (fun h => ?_) (fun h => ?_) <;> (try simp only [beq_true, beq_false, Bool.not_eq_eq_eq_not, Bool.not_true, Bool.not_false, Bool.not_not, decide_eq_true_eq, decide_eq_false_iff_not, ge_iff_le, gt_iff_lt] at h)))
  refine loopH (fun st => ∃ (i : Nat) (done : List De), Hd (a ≤ i ∧ i ≤ e) ∧ st.slot 7 = .ptr 14 1 0 ∧ st.box 14 = some ⟨1, [.list (ts.map Tk.d), .int .i64 (i : Nat), .int .i64 (e : Nat)]⟩ ∧ st.slot 0 = .list (ts.map Tk.d) ∧ st.slot 6 = .list (done.map De.d) ∧
    ((Hd (done = []) ∧ st.room 6 = [.full]) ∨ (Hd (done ≠ []) ∧ st.room 6 = [.own 41])) ∧ Hd (a + done.length ≤ i) ∧ Hd (done ++ declsF ts e i = all))
    (fun st => match st.box 14 with | some ⟨_, [_, .int _ n, _]⟩ => e - n.toNat | _ => 0) ?_ ?_
  · refine ⟨a, [], Hd.mk ⟨Nat.le_refl _, hge⟩, ?_, ?_, ?_, ?_, .inl ⟨Hd.mk rfl, ?_⟩, Hd.mk (Nat.le_refl _), hall⟩
    all_goals simp only [*, put_slot, put_room, put_box, dem_slot, dem_box, dem_room, setBox_box, entry_slot, ↓reduceIte, Nat.reduceEqDiff, reduceCtorEq, List.getD_cons_zero, List.map_nil]
    all_goals rfl
  · rintro st K ⟨i, done, hai, h7, hbx, h0, h6, hrm, hdl, hinv⟩ hn hx hr
    obtain ⟨hai1, hai2⟩ := (show a ≤ i ∧ i ≤ e from hai)
    have hdl' : a + done.length ≤ i := hdl
    have hinv' : done ++ declsF ts e i = all := hinv
    have hE := ends_L ts i e
    by_cases hie : e ≤ i
    · rw [decide_eq_true hie] at hE
      rw [declsF_end hie, List.append_nil] at hinv'
      subst hinv'
      clear hinv hall
      repeat' (first
    | simp only [*, go_nil, go_seq, go_cond, go_exit, go_xcode, go_region, go_ops_nil, go_ops, okG_some, okB_some, cwD_bool, gw_false, guardG, opG, isPtr, inB, sval, stake, eats, eaters, get, St.taken, put_slot, put_box, dem_none, ↓reduceIte, Nat.reduceLT, decide_true, List.filterMap_cons, List.filterMap_nil, Option.map_some, List.contains_cons, List.contains_nil, List.map_cons, List.map_nil, Bool.or_false, Nat.reduceBEq, Bool.false_eq_true, row9, frz9, frzOf_def, frz_nil, Bool.not_true, List.all_nil, dun, Bool.and_false, and_self, pid0, stepPtr]
    | (refine drW_intro (by kernel_rfl) ?_)
    | (refine gw_intro (fun h => ?_) (fun h => ?_) <;> (try simp only [beq_true, beq_false, Bool.not_eq_eq_eq_not, Bool.not_true, Bool.not_false, Bool.not_not, decide_eq_true_eq, decide_eq_false_iff_not, ge_iff_le, gt_iff_lt] at h)))
      refine hx _ _ ?_
      repeat' (first
    | simp only [*, go_seq, go_retc, go_xblk, go_region, go_ops_nil, go_ops, okG_some, guardG, opG, inB, sval, stake, eats, eaters, get, St.taken, put_slot, put_room, put_box, dem_box, setBox_slot, setBox_room, setBox_box, endQ, endR, endV, rvars, rvar, room1, ↓reduceIte, Nat.reduceEqDiff, Nat.reduceLT, decide_true, List.filterMap_cons, List.filterMap_nil, List.contains_cons, List.contains_nil, List.map_nil, beq_self_eq_true, Bool.or_false, Nat.reduceBEq, Bool.false_eq_true, row9, frz9, frzOf_def, frz_nil, pureB, leaf, leafN, List.range_zero, Bool.and_false, and_true]
    | (refine drW_intro (by kernel_rfl) ?_)
    | (refine gw_intro (fun h => ?_) (fun h => ?_) <;> (try simp only [beq_true, beq_false, Bool.not_eq_eq_eq_not, Bool.not_true, Bool.not_false, Bool.not_not, decide_eq_true_eq, decide_eq_false_iff_not, ge_iff_le, gt_iff_lt] at h)))
      rcases hrm with ⟨hz, er⟩ | ⟨hz, er⟩ <;> rw [er]
      · have hz' : done = [] := hz
        rw [if_pos hz']; rfl
      · have hz' : done ≠ [] := hz
        rw [if_neg hz']; rfl
    · rw [decide_eq_false hie] at hE
      have hlt : i < e := by omega
      have het : e ≤ ts.length := by rcases hle with h | h <;> omega
      have hro : RO ts i e := ⟨hl, .inl het⟩
      have j13 := isK_L hro 13
      have j17 := isK_L hro 17
      have j3 := isK_L hro 3
      have j1 := isK_L hro 1
      rw [isB_of hlt] at j13 j17 j3 j1
      have hw := wrapS i (by omega)
      have hfit : (done.map De.d).length ≤ 1073741823 := by rw [List.length_map]; omega
      have hsz := szDe done
      rw [declsF_step hlt] at hinv'
      have G := Hd.mk (show a ≤ i + 1 ∧ i + 1 ≤ e by omega)
      have D1 := Hd.mk (show a + done.length ≤ i + 1 by omega)
      have hTL : TL ts := hT'
      by_cases hb : kd ts i = 13 ∨ kd ts i = 17
      · rw [if_pos hb] at hinv'
        have T := Hd.mk hinv'
        have hc : decide (kd ts i = 13) = true ∨ (decide (kd ts i = 13) = false ∧ decide (kd ts i = 17) = true) := by
          rcases hb with h | h
          · exact .inl (decide_eq_true h)
          · exact .inr ⟨decide_eq_false (by omega), decide_eq_true h⟩
        rcases hc with c | ⟨c, c2⟩
        · rw [c] at j13
          clear hinv hinv' hb hie hai hdl hdl' hro hTL hall c j17 j3 j1
          repeat' (first
    | simp only [*, go_nil, go_seq, go_cond, go_block, go_blk, go_skip, go_region, go_ops_nil, go_ops, okG_some, okB_some, cwD_bool, gw_true, guardG, opG, isPtr, inB, sval, stake, eats, eaters, get, cval, cval1, St.taken, put_slot, put_room, put_box, put_none, dem_none, dem_slot, dem_box, setBox_slot, setBox_box, ↓reduceIte, Nat.reduceEqDiff, Nat.reduceLT, Nat.reduceLeDiff, decide_true, List.filterMap_cons, List.filterMap_nil, Option.map_some, List.getElem?_cons_zero, List.getElem?_cons_succ, List.contains_cons, List.contains_nil, List.map_cons, List.map_nil, Bool.or_false, Bool.and_true, Nat.reduceBEq, Bool.false_eq_true, dbin, dIntBin, row9, frz9, frzOf_def, frz_nil, Bool.not_false, pureB, leaf, leafN, List.all_cons, List.all_nil, List.nil_append, List.cons_append, List.length_nil, List.length_cons, dun, List.take_zero, List.drop_zero, List.take_succ_cons, List.drop_succ_cons, dcells, Nat.zero_add, Nat.reduceAdd, stepBox, Bool.and_false, and_self, ty3, dp3, fp51_1, pid0, stepPtr]
    | (refine drW_intro (by kernel_rfl) ?_)
    | (refine gw_intro (fun h => ?_) (fun h => ?_) <;> (try simp only [beq_true, beq_false, Bool.not_eq_eq_eq_not, Bool.not_true, Bool.not_false, Bool.not_not, decide_eq_true_eq, decide_eq_false_iff_not, ge_iff_le, gt_iff_lt] at h)))
          refine hn _ ⟨i + 1, done, G, ?_, ?_, ?_, ?_, ?_, D1, T⟩ ?_
          · simp only [*, put_slot, dem_slot, setBox_slot, ↓reduceIte, Nat.reduceEqDiff]
          · simp only [*, setBox_box, ↓reduceIte]
          · simp only [*, put_slot, dem_slot, setBox_slot, ↓reduceIte, reduceCtorEq]
          · simp only [*, put_slot, dem_slot, setBox_slot, ↓reduceIte, Nat.reduceEqDiff]
          · simp only [*, put_room, dem_room, setBox_room, ↓reduceIte, Nat.reduceEqDiff]
          · simp only [*, setBox_box, ↓reduceIte]
            omega
        · rw [c] at j13
          rw [c2] at j17
          clear hinv hinv' hb hie hai hdl hdl' hro hTL hall c c2 j3 j1
          repeat' (first
    | simp only [*, go_nil, go_seq, go_cond, go_block, go_blk, go_skip, go_region, go_ops_nil, go_ops, okG_some, okB_some, cwD_bool, gw_true, gw_false, guardG, opG, isPtr, inB, sval, stake, eats, eaters, get, cval, cval1, St.taken, put_slot, put_room, put_box, put_none, dem_none, dem_slot, dem_box, setBox_slot, setBox_box, ↓reduceIte, Nat.reduceEqDiff, Nat.reduceLT, Nat.reduceLeDiff, decide_true, List.filterMap_cons, List.filterMap_nil, Option.map_some, List.getElem?_cons_zero, List.getElem?_cons_succ, List.contains_cons, List.contains_nil, List.map_cons, List.map_nil, Bool.or_false, Bool.and_true, Nat.reduceBEq, Bool.false_eq_true, dbin, dIntBin, row9, frz9, frzOf_def, frz_nil, Bool.not_false, pureB, leaf, leafN, List.all_cons, List.all_nil, List.nil_append, List.cons_append, List.length_nil, List.length_cons, dun, List.take_zero, List.drop_zero, List.take_succ_cons, List.drop_succ_cons, dcells, Nat.zero_add, Nat.reduceAdd, stepBox, Bool.and_false, and_self, ty3, dp3, fp51_1, pid0, stepPtr]
    | (refine drW_intro (by kernel_rfl) ?_)
    | (refine gw_intro (fun h => ?_) (fun h => ?_) <;> (try simp only [beq_true, beq_false, Bool.not_eq_eq_eq_not, Bool.not_true, Bool.not_false, Bool.not_not, decide_eq_true_eq, decide_eq_false_iff_not, ge_iff_le, gt_iff_lt] at h)))
          refine hn _ ⟨i + 1, done, G, ?_, ?_, ?_, ?_, ?_, D1, T⟩ ?_
          · simp only [*, put_slot, dem_slot, setBox_slot, ↓reduceIte, Nat.reduceEqDiff]
          · simp only [*, setBox_box, ↓reduceIte]
          · simp only [*, put_slot, dem_slot, setBox_slot, ↓reduceIte, reduceCtorEq]
          · simp only [*, put_slot, dem_slot, setBox_slot, ↓reduceIte, Nat.reduceEqDiff]
          · simp only [*, put_room, dem_room, setBox_room, ↓reduceIte, Nat.reduceEqDiff]
          · simp only [*, setBox_box, ↓reduceIte]
            omega
      · rw [if_neg hb] at hinv'
        have h13 : kd ts i ≠ 13 := fun h => hb (.inl h)
        have h17 : kd ts i ≠ 17 := fun h => hb (.inr h)
        rw [decide_eq_false h13] at j13
        rw [decide_eq_false h17] at j17
        clear hb h13
        by_cases h3 : kd ts i = 3
        · rw [decide_eq_true h3] at j3
          rw [if_pos h3] at hinv'
          have hA := atRule_L hTL het hlt
          have hpos := atRuleF_pos (ts := ts) hlt
          generalize (atRuleF ts e i).1.d = xd at *
          generalize (atRuleF ts e i).2 = nx at *
          have T := Hd.mk hinv'
          have G2 := Hd.mk (show a ≤ nx ∧ nx ≤ e by omega)
          have D2 := Hd.mk (show a + done.length ≤ nx by omega)
          clear hinv hinv' h3 h17 hie hai hdl hdl' hro hTL hall G D1 j1
          repeat' (first
    | simp only [*, go_nil, go_seq, go_cond, go_block, go_blk, go_skip, go_region, go_ops_nil, go_ops, okG_some, okB_some, cwD_bool, gw_true, gw_false, guardG, opG, isPtr, inB, sval, stake, eats, eaters, get, cval, cval1, St.taken, put_slot, put_room, put_box, dem_none, dem_slot, dem_box, setBox_slot, setBox_box, ↓reduceIte, Nat.reduceEqDiff, Nat.reduceLT, decide_true, List.filterMap_cons, List.filterMap_nil, Option.map_some, List.getElem?_cons_zero, List.getElem?_cons_succ, List.contains_cons, List.contains_nil, List.map_cons, List.map_nil, Bool.or_false, Bool.and_true, Nat.reduceBEq, Bool.false_eq_true, row9, frz9, frzOf_def, frz_nil, Bool.not_false, pureB, leaf, leafN, List.all_cons, List.all_nil, dun, Nat.zero_add, Bool.and_false, and_self, dp3, fp51_1, pid0, stepPtr]
    | (refine drW_intro (by kernel_rfl) ?_)
    | (refine gw_intro (fun h => ?_) (fun h => ?_) <;> (try simp only [beq_true, beq_false, Bool.not_eq_eq_eq_not, Bool.not_true, Bool.not_false, Bool.not_not, decide_eq_true_eq, decide_eq_false_iff_not, ge_iff_le, gt_iff_lt] at h)))
          refine hn _ ⟨nx, done, G2, ?_, ?_, ?_, ?_, ?_, D2, T⟩ ?_
          · simp only [*, put_slot, dem_slot, setBox_slot, ↓reduceIte, Nat.reduceEqDiff]
          · simp only [*, put_box, setBox_box, ↓reduceIte]
          · simp only [*, put_slot, dem_slot, setBox_slot, ↓reduceIte, reduceCtorEq]
          · simp only [*, put_slot, dem_slot, setBox_slot, ↓reduceIte, Nat.reduceEqDiff]
          · simp only [*, put_room, dem_room, setBox_room, ↓reduceIte, Nat.reduceEqDiff]
          · simp only [*, put_box, setBox_box, ↓reduceIte]
            omega
        · rw [decide_eq_false h3] at j3
          rw [if_neg h3] at hinv'
          have hU := until_L hro [17] (by simp)
          have hU' : callL Try.prog ext9 30 [.ptr 1000000 0 0, .list [.int .i64 17]] [(⟨0, [.list (ts.map Tk.d), .int .i64 ((i : Nat) : Int), .int .i64 ((e : Nat) : Int)]⟩ : Bx)] = some (.tuple [], [], [(⟨0, [.list (ts.map Tk.d), .int .i64 ((semiE ts e i : Nat) : Int), .int .i64 ((e : Nat) : Int)]⟩ : Bx)]) := by
            have e1 : inK [17] = or2 17 17 := by
              funext k
              unfold inK or2
              simp only [List.contains_cons, List.contains_nil, Bool.or_false, Bool.or_self]
            rw [e1] at hU
            exact hU
          have hpos := semiE_pos hlt h17
          have hD := decl_L hTL (show semiE ts e i ≤ ts.length by omega) hpos.1
          generalize declF ts i (semiE ts e i) = q at *
          generalize semiE ts e i = nx at *
          obtain ⟨x, ok⟩ := q
          have hD' : callL Try.prog ext9 34 [Tks ts, .int .i64 (i : Nat), .int .i64 (nx : Nat)] [] = some (.tuple [.agg [.str x.name, .int .i64 (x.fr : Nat), .int .i64 (x.to : Nat), .bool x.imp], .bool ok], [.no, .no], []) := hD
          have G2 := Hd.mk (show a ≤ nx ∧ nx ≤ e by omega)
          have D2 := Hd.mk (show a + done.length ≤ nx by omega)
          have D3 := Hd.mk (show a + (done ++ [x]).length ≤ nx by simp; omega)
          dsimp only at hinv'
          clear h3 h17 hie hai hdl hdl' hro hTL hall G D1 hU hD
          by_cases h1 : kd ts i = 1
          · rw [decide_eq_true h1] at j1
            cases ok with
            | true =>
              rw [if_pos ⟨h1, rfl⟩] at hinv'
              have T := Hd.mk (show (done ++ [x]) ++ declsF ts e nx = all by rw [← hinv']; simp)
              have hap := snocDe done x
              have hrm2 : st.room 6 = [.full] ∨ st.room 6 = [.own 41] := by
                rcases hrm with h | h
                · exact .inl h.2
                · exact .inr h.2
              clear hinv hinv' h1 hrm D2
              rcases hrm2 with hrm2 | hrm2
              all_goals
                repeat' (first
    | simp only [*, go_nil, go_seq, go_cond, go_block, go_blk, go_skip, go_region, go_ops_nil, go_ops, okG_some, okB_some, cwD_bool, gw_true, gw_false, guardG, opG, isPtr, inB, sval, stake, eats, eaters, get, cval, cval1, St.taken, put_slot, put_room, put_box, put_ctr, put_none, dem_none, dem_slot, dem_box, dem_ctr, dem_room, dem_room1, setBox_slot, setBox_room, setBox_ctr, setBox_box, ↓reduceIte, Nat.reduceEqDiff, Nat.reduceLT, Nat.reduceLeDiff, reduceCtorEq, decide_true, List.filterMap_cons, List.filterMap_nil, Option.map_some, List.getElem?_cons_zero, List.getElem?_cons_succ, List.contains_cons, List.contains_nil, List.map_cons, List.map_nil, beq_self_eq_true, Bool.or_false, Bool.or_true, Bool.and_true, Nat.reduceBEq, Bool.false_eq_true, okR, callG, row9, frz9, frzOf_def, frz_nil, Bool.not_false, pureB, leaf, leafN, List.all_cons, List.all_nil, List.nil_append, List.append_nil, List.length_nil, List.length_cons, dun, List.take_zero, List.drop_zero, List.drop_succ_cons, dcells, Nat.zero_add, Nat.reduceAdd, stepBox, Bool.and_false, and_true, and_self, or_true, or_false, szOk_cons, List.cons.injEq, List.getElem?_toArray, dp3, bs44, ty41, dp41, zr41, ap35, bs35, fp51_1, pid0, Nat.le_refl, stepPtr]
    | (refine drW_intro (by kernel_rfl) ?_)
    | (refine gw_intro (fun h => ?_) (fun h => ?_) <;> (try simp only [beq_true, beq_false, Bool.not_eq_eq_eq_not, Bool.not_true, Bool.not_false, Bool.not_not, decide_eq_true_eq, decide_eq_false_iff_not, ge_iff_le, gt_iff_lt] at h)))
                refine hn _ ⟨nx, done ++ [x], G2, ?_, ?_, ?_, ?_, .inr ⟨Hd.mk (by simp), ?_⟩, D3, T⟩ ?_
                · simp only [*, put_slot, dem_slot, setBox_slot, ↓reduceIte, Nat.reduceEqDiff]
                · simp only [*, put_box, dem_box, setBox_box, ↓reduceIte, Nat.reduceEqDiff]
                · simp only [*, put_slot, dem_slot, setBox_slot, ↓reduceIte, reduceCtorEq]
                · simp only [*, put_slot, ↓reduceIte]
                · simp only [*, put_room, ↓reduceIte]
                · simp only [*, put_box, dem_box, setBox_box, ↓reduceIte, Nat.reduceEqDiff]
                  omega
            | false =>
              rw [if_neg (by simp)] at hinv'
              have T := Hd.mk hinv'
              clear hinv hinv' h1 D3
              repeat' (first
    | simp only [*, go_nil, go_seq, go_cond, go_block, go_blk, go_skip, go_region, go_ops_nil, go_ops, okG_some, okB_some, cwD_bool, gw_true, gw_false, guardG, opG, isPtr, inB, sval, stake, eats, eaters, get, cval, cval1, St.taken, put_slot, put_room, put_box, put_ctr, put_none, dem_none, dem_slot, dem_box, dem_ctr, dem_room1, setBox_slot, setBox_room, setBox_ctr, setBox_box, ↓reduceIte, Nat.reduceEqDiff, Nat.reduceLT, reduceCtorEq, decide_true, List.filterMap_cons, List.filterMap_nil, Option.map_some, List.getElem?_cons_zero, List.getElem?_cons_succ, List.contains_cons, List.contains_nil, List.map_cons, List.map_nil, beq_self_eq_true, Bool.or_false, Bool.or_true, Bool.and_true, Nat.reduceBEq, Bool.false_eq_true, okR, callG, row9, frz9, frzOf_def, frz_nil, Bool.not_false, pureB, leaf, leafN, List.all_cons, List.all_nil, List.nil_append, List.append_nil, List.length_nil, List.length_cons, dun, List.take_zero, List.drop_zero, List.drop_succ_cons, dcells, Nat.zero_add, Nat.reduceAdd, stepBox, Bool.and_false, and_self, dp3, bs44, ty41, zr41, fp51_1, pid0, Nat.le_refl, stepPtr]
    | (refine drW_intro (by kernel_rfl) ?_)
    | (refine gw_intro (fun h => ?_) (fun h => ?_) <;> (try simp only [beq_true, beq_false, Bool.not_eq_eq_eq_not, Bool.not_true, Bool.not_false, Bool.not_not, decide_eq_true_eq, decide_eq_false_iff_not, ge_iff_le, gt_iff_lt] at h)))
              refine hn _ ⟨nx, done, G2, ?_, ?_, ?_, ?_, ?_, D2, T⟩ ?_
              · simp only [*, put_slot, dem_slot, setBox_slot, ↓reduceIte, Nat.reduceEqDiff]
              · simp only [*, put_box, dem_box, setBox_box, ↓reduceIte, Nat.reduceEqDiff]
              · simp only [*, put_slot, dem_slot, setBox_slot, ↓reduceIte, reduceCtorEq]
              · simp only [*, put_slot, dem_slot, setBox_slot, ↓reduceIte, Nat.reduceEqDiff]
              · simp only [*, put_room, dem_room, dem_room1, setBox_room, ↓reduceIte, Nat.reduceEqDiff]
              · simp only [*, put_box, dem_box, setBox_box, ↓reduceIte, Nat.reduceEqDiff]
                omega
          · rw [decide_eq_false h1] at j1
            rw [if_neg (fun hh => h1 hh.1)] at hinv'
            have T := Hd.mk hinv'
            clear hinv hinv' h1 D3 hD'
            repeat' (first
    | simp only [*, go_nil, go_seq, go_cond, go_block, go_blk, go_skip, go_region, go_ops_nil, go_ops, okG_some, okB_some, cwD_bool, gw_true, gw_false, guardG, opG, isPtr, inB, sval, stake, eats, eaters, get, cval, cval1, St.taken, put_slot, put_room, put_box, dem_none, dem_slot, dem_box, setBox_slot, setBox_box, ↓reduceIte, Nat.reduceEqDiff, Nat.reduceLT, decide_true, List.filterMap_cons, List.filterMap_nil, Option.map_some, List.getElem?_cons_zero, List.getElem?_cons_succ, List.contains_cons, List.contains_nil, List.map_cons, List.map_nil, Bool.or_false, Bool.and_true, Nat.reduceBEq, Bool.false_eq_true, row9, frz9, frzOf_def, frz_nil, Bool.not_false, pureB, leaf, leafN, List.all_cons, List.all_nil, dun, Nat.zero_add, Bool.and_false, and_self, dp3, bs44, fp51_1, pid0, stepPtr]
    | (refine drW_intro (by kernel_rfl) ?_)
    | (refine gw_intro (fun h => ?_) (fun h => ?_) <;> (try simp only [beq_true, beq_false, Bool.not_eq_eq_eq_not, Bool.not_true, Bool.not_false, Bool.not_not, decide_eq_true_eq, decide_eq_false_iff_not, ge_iff_le, gt_iff_lt] at h)))
            refine hn _ ⟨nx, done, G2, ?_, ?_, ?_, ?_, ?_, D2, T⟩ ?_
            · simp only [*, put_slot, dem_slot, setBox_slot, ↓reduceIte, Nat.reduceEqDiff]
            · simp only [*, put_box, setBox_box, ↓reduceIte]
            · simp only [*, put_slot, dem_slot, setBox_slot, ↓reduceIte, reduceCtorEq]
            · simp only [*, put_slot, dem_slot, setBox_slot, ↓reduceIte, Nat.reduceEqDiff]
            · simp only [*, put_room, dem_room, setBox_room, ↓reduceIte, Nat.reduceEqDiff]
            · simp only [*, put_box, setBox_box, ↓reduceIte]
              omega
end Go.Av
/- Chapter 19: the declarations of a part: the document's text. -/
set_option linter.unusedSimpArgs false
set_option linter.unusedVariables false
set_option linter.unusedSectionVars false
set_option maxRecDepth 100000
namespace Go.Av
open Go.Proofs Go.Proofs.Ytaldmffahmomoaa Go.RowKit
set_option maxHeartbeats 16000000 in
theorem rdecls_L {ts : List Tk} (hT : TL ts) (fr to : Int) : ∃ r, callL Try.prog ext9 16 [Tks ts, .int .i64 fr, .int .i64 to] [] =
    some (.list ((declsF ts (cutF ts fr to).2 (cutF ts fr to).1).map De.d), [r], []) := by
  have hl := hT.len
  have hP := cut_L ts hl fr to
  have hle := cutF_le ts fr to
  have hge := cutF_ge ts fr to
  have lN := TkLen ts
  generalize (cutF ts fr to).1 = a at *
  generalize (cutF ts fr to).2 = e at *
  refine ⟨if declsF ts e a = [] then .full else .own 41, ?_⟩
  obtain ⟨all, hall⟩ : ∃ all, Hid (declsF ts e a = all) := ⟨_, rfl⟩
  rw [hall.out]
  have hT' := Hd.mk hT
  clear hT
  refine callK (m := 69) (res := [6]) (rs := [.tmp 6]) rfl Try.func16 rfl rfl rfl rfl rfl ?_
  repeat' (first
    | simp only [*, go_seq, go_block, go_loop, go_region, go_ops_nil, go_ops, okG_some, guardG, opG, isPtr, inB, sval, stake, eats, eaters, get, cval, cval1, croom, St.taken, put_slot, put_room, dem_none, dem_slot, dem_room, dem_room1, entry_slot, ↓reduceIte, Nat.reduceEqDiff, Nat.reduceLT, reduceCtorEq, decide_true, List.filterMap_cons, List.filterMap_nil, Option.map_some, List.getElem?_cons_zero, List.getElem?_cons_succ, List.getD_cons_zero, List.getD_cons_succ, List.contains_cons, List.contains_nil, List.map_cons, List.map_nil, beq_self_eq_true, Bool.or_false, Bool.or_true, Bool.and_true, Nat.reduceBEq, Bool.false_eq_true, okR, callG, row9, frz9, frzOf_def, frz_nil, pureB, leaf, leafN, List.all_cons, List.all_nil, List.nil_append, List.append_nil, List.length_nil, Bool.and_false, bs35e]
    | (refine drW_intro (by kernel_rfl) ?_)
    | (refine gw_intro (fun h => ?_) (fun h => ?_) <;> (try simp only [beq_true, beq_false, Bool.not_eq_eq_eq_not, Bool.not_true, Bool.not_false, Bool.not_not, decide_eq_true_eq, decide_eq_false_iff_not, ge_iff_le, gt_iff_lt] at h)))
  refine loopH (fun st => ∃ (i : Nat) (done : List De), Hd (a ≤ i ∧ i ≤ e) ∧ st.slot 0 = .list (ts.map Tk.d) ∧ st.slot 8 = .int .i64 i ∧ st.slot 9 = .int .i64 e ∧ st.slot 7 = .list (done.map De.d) ∧
    ((Hd (done = []) ∧ st.room 7 = [.full]) ∨ (Hd (done ≠ []) ∧ st.room 7 = [.own 41])) ∧ Hd (a + done.length ≤ i) ∧ Hd (done ++ declsF ts e i = all))
    (fun st => e - slotI st 8) ?_ ?_
  · refine ⟨a, [], Hd.mk ⟨Nat.le_refl _, hge⟩, ?_, ?_, ?_, ?_, .inl ⟨Hd.mk rfl, ?_⟩, Hd.mk (Nat.le_refl _), hall⟩
    all_goals simp only [*, put_slot, put_room, dem_slot, dem_room, dem_room1, entry_slot, ↓reduceIte, Nat.reduceEqDiff, reduceCtorEq, List.getD_cons_zero, List.map_nil]
    all_goals rfl
  · rintro st K ⟨i, done, hai, h0, h8, h9, h7, hrm, hdl, hinv⟩ hn hx hr
    obtain ⟨hai1, hai2⟩ := (show a ≤ i ∧ i ≤ e from hai)
    have hdl' : a + done.length ≤ i := hdl
    have hinv' : done ++ declsF ts e i = all := hinv
    by_cases hie : e ≤ i
    · have g1 : ¬ (i : Int) < e := by omega
      rw [declsF_end hie, List.append_nil] at hinv'
      subst hinv'
      clear hinv hall
      repeat' (first
    | simp only [*, go_nil, go_seq, go_cond, go_exit, go_xcode, go_region, go_ops_nil, go_ops, okG_some, cwD_bool, gw_false, guardG, opG, inB, sval, stake, eats, eaters, get, St.taken, put_slot, dem_none, ↓reduceIte, Nat.reduceEqDiff, Nat.reduceLT, decide_true, decide_false, List.filterMap_cons, List.filterMap_nil, Option.map_some, List.contains_cons, List.contains_nil, Bool.or_false, Nat.reduceBEq, Bool.false_eq_true, dbin, dIntBin, row9, frz9, frzOf_def, frz_nil, Bool.and_false]
    | (refine drW_intro (by kernel_rfl) ?_)
    | (refine gw_intro (fun h => ?_) (fun h => ?_) <;> (try simp only [beq_true, beq_false, Bool.not_eq_eq_eq_not, Bool.not_true, Bool.not_false, Bool.not_not, decide_eq_true_eq, decide_eq_false_iff_not, ge_iff_le, gt_iff_lt] at h)))
      refine hx _ _ ?_
      repeat' (first
    | simp only [*, go_seq, go_retc, go_xblk, go_region, go_ops_nil, go_ops, okG_some, guardG, opG, inB, sval, stake, eats, eaters, get, St.taken, put_slot, put_room, put_box, dem_box, endQ, endR, endV, rvars, rvar, room1, ↓reduceIte, Nat.reduceEqDiff, Nat.reduceLT, decide_true, List.filterMap_cons, List.filterMap_nil, List.contains_cons, List.contains_nil, List.map_nil, beq_self_eq_true, Bool.or_false, Nat.reduceBEq, Bool.false_eq_true, row9, frz9, frzOf_def, frz_nil, pureB, leaf, leafN, List.range_zero, Bool.and_false, and_true]
    | (refine drW_intro (by kernel_rfl) ?_)
    | (refine gw_intro (fun h => ?_) (fun h => ?_) <;> (try simp only [beq_true, beq_false, Bool.not_eq_eq_eq_not, Bool.not_true, Bool.not_false, Bool.not_not, decide_eq_true_eq, decide_eq_false_iff_not, ge_iff_le, gt_iff_lt] at h)))
      rcases hrm with ⟨hz, er⟩ | ⟨hz, er⟩ <;> rw [er]
      · have hz' : done = [] := hz
        rw [if_pos hz']; rfl
      · have hz' : done ≠ [] := hz
        rw [if_neg hz']; rfl
    · have hlt : i < e := by omega
      have g1 : (i : Int) < e := by omega
      have het : e ≤ ts.length := by rcases hle with h | h <;> omega
      have g2 : (i : Int) < ts.length := by omega
      have hg := tk_at ts i (by omega)
      have hw := wrapS i (by omega)
      have hfit : (done.map De.d).length ≤ 1073741823 := by rw [List.length_map]; omega
      have hsz := szDe done
      rw [declsF_step hlt] at hinv'
      have G := Hd.mk (show a ≤ i + 1 ∧ i + 1 ≤ e by omega)
      have D1 := Hd.mk (show a + done.length ≤ i + 1 by omega)
      have hTL : TL ts := hT'
      by_cases hb : kd ts i = 13 ∨ kd ts i = 17
      · rw [if_pos hb] at hinv'
        have T := Hd.mk hinv'
        have hc : (kd ts i == 13) = true ∨ ((kd ts i == 13) = false ∧ (kd ts i == 17) = true) := by
          rcases hb with h | h
          · exact .inl (beq_iff_eq.2 h)
          · exact .inr ⟨beq_eq_false_iff_ne.2 (by omega), beq_iff_eq.2 h⟩
        rcases hc with c | ⟨c, c2⟩
        · clear hinv hinv' hb hie hai hdl hdl' hTL hall
          repeat' (first
    | simp only [*, go_nil, go_seq, go_cond, go_block, go_skip, go_exit, go_xcode, go_xblk, go_region, go_ops_nil, go_ops, okG_some, gwD_bool, cwD_bool, gw_true, gw_false, guardG, opG, inB, sval, stake, eats, eaters, get, cval, cval1, croom, St.taken, put_slot, put_room, dem_none, dem_slot, dem_room, ↓reduceIte, Nat.reduceEqDiff, Nat.reduceLT, reduceCtorEq, decide_true, List.filterMap_cons, List.filterMap_nil, Option.bind_some, Option.map_some, List.getElem?_cons_zero, List.getElem?_cons_succ, List.contains_cons, List.contains_nil, Bool.or_false, Nat.reduceBEq, Bool.false_eq_true, dbin, dIntBin, row9, frz9, frzOf_def, frz_nil, beq_false, Bool.not_true, List.length_nil, List.length_cons, dcells, Nat.zero_add, Nat.reduceAdd, Bool.and_false, Int.natCast_nonneg, Int.toNat_natCast, and_self, Nat.add_zero, dStrBin, dp3, fa56_0, ia24]
    | (refine drW_intro (by kernel_rfl) ?_)
    | (refine gw_intro (fun h => ?_) (fun h => ?_) <;> (try simp only [beq_true, beq_false, Bool.not_eq_eq_eq_not, Bool.not_true, Bool.not_false, Bool.not_not, decide_eq_true_eq, decide_eq_false_iff_not, ge_iff_le, gt_iff_lt] at h)))
          refine hn _ ⟨i + 1, done, G, ?_, ?_, ?_, ?_, ?_, D1, T⟩ ?_
          · simp only [*, put_slot, dem_slot, ↓reduceIte, reduceCtorEq]
          · simp only [*, put_slot, ↓reduceIte]
          · simp only [*, put_slot, dem_slot, ↓reduceIte, Nat.reduceEqDiff]
          · simp only [*, put_slot, dem_slot, ↓reduceIte, Nat.reduceEqDiff]
          · simp only [*, put_room, dem_room, ↓reduceIte, Nat.reduceEqDiff]
          · simp only [slotI, *, put_slot, ↓reduceIte, Int.toNat_natCast]
            omega
        · clear hinv hinv' hb hie hai hdl hdl' hTL hall
          repeat' (first
    | simp only [*, go_nil, go_seq, go_cond, go_block, go_skip, go_exit, go_xcode, go_xblk, go_region, go_ops_nil, go_ops, okG_some, gwD_bool, cwD_bool, gw_true, guardG, opG, inB, sval, stake, eats, eaters, get, cval, cval1, croom, St.taken, put_slot, put_room, dem_none, dem_slot, dem_room, ↓reduceIte, Nat.reduceEqDiff, Nat.reduceLT, reduceCtorEq, decide_true, List.filterMap_cons, List.filterMap_nil, Option.bind_some, Option.map_some, List.getElem?_cons_zero, List.getElem?_cons_succ, List.contains_cons, List.contains_nil, beq_self_eq_true, Bool.or_false, Nat.reduceBEq, Bool.false_eq_true, dbin, dIntBin, row9, frz9, frzOf_def, frz_nil, List.length_nil, List.length_cons, dcells, Nat.zero_add, Nat.reduceAdd, Bool.and_false, Int.natCast_nonneg, Int.toNat_natCast, and_self, Nat.add_zero, dStrBin, dp3, fa56_0, ia24]
    | (refine drW_intro (by kernel_rfl) ?_)
    | (refine gw_intro (fun h => ?_) (fun h => ?_) <;> (try simp only [beq_true, beq_false, Bool.not_eq_eq_eq_not, Bool.not_true, Bool.not_false, Bool.not_not, decide_eq_true_eq, decide_eq_false_iff_not, ge_iff_le, gt_iff_lt] at h)))
          refine hn _ ⟨i + 1, done, G, ?_, ?_, ?_, ?_, ?_, D1, T⟩ ?_
          · simp only [*, put_slot, dem_slot, ↓reduceIte, reduceCtorEq]
          · simp only [*, put_slot, ↓reduceIte]
          · simp only [*, put_slot, dem_slot, ↓reduceIte, Nat.reduceEqDiff]
          · simp only [*, put_slot, dem_slot, ↓reduceIte, Nat.reduceEqDiff]
          · simp only [*, put_room, dem_room, ↓reduceIte, Nat.reduceEqDiff]
          · simp only [slotI, *, put_slot, ↓reduceIte, Int.toNat_natCast]
            omega
      · rw [if_neg hb] at hinv'
        have h13 : kd ts i ≠ 13 := fun h => hb (.inl h)
        have h17 : kd ts i ≠ 17 := fun h => hb (.inr h)
        have b13 : (kd ts i == 13) = false := beq_eq_false_iff_ne.2 h13
        have b17 : (kd ts i == 17) = false := beq_eq_false_iff_ne.2 h17
        clear hb h13
        by_cases h3 : kd ts i = 3
        · have b3 : (kd ts i == 3) = true := beq_iff_eq.2 h3
          rw [if_pos h3] at hinv'
          have hA := ratRule_L hTL het hlt
          have hpos := atRuleF_pos (ts := ts) hlt
          generalize (atRuleF ts e i).1.d = xd at *
          generalize (atRuleF ts e i).2 = nx at *
          have T := Hd.mk hinv'
          have G2 := Hd.mk (show a ≤ nx ∧ nx ≤ e by omega)
          have D2 := Hd.mk (show a + done.length ≤ nx by omega)
          clear hinv hinv' h3 h17 hie hai hdl hdl' hTL hall G D1
          repeat' (first
    | simp only [*, go_nil, go_seq, go_cond, go_block, go_skip, go_exit, go_xcode, go_xblk, go_region, go_ops_nil, go_ops, okG_some, gwD_bool, cwD_bool, gw_true, gw_false, guardG, opG, isPtr, inB, sval, stake, eats, eaters, get, cval, cval1, croom, St.taken, put_slot, put_room, dem_none, dem_slot, dem_room, dem_room1, ↓reduceIte, Nat.reduceEqDiff, Nat.reduceLT, reduceCtorEq, decide_true, List.filterMap_cons, List.filterMap_nil, Option.bind_some, Option.map_some, List.getElem?_cons_zero, List.getElem?_cons_succ, List.contains_cons, List.contains_nil, List.map_cons, List.map_nil, beq_self_eq_true, Bool.or_false, Bool.or_true, Bool.and_true, Nat.reduceBEq, Bool.false_eq_true, dbin, dIntBin, okR, callG, row9, frz9, frzOf_def, frz_nil, pureB, leaf, leafN, List.all_cons, List.all_nil, List.nil_append, List.append_nil, List.length_nil, List.length_cons, dcells, Nat.zero_add, Nat.reduceAdd, Bool.and_false, Int.natCast_nonneg, Int.toNat_natCast, and_self, Nat.add_zero, dStrBin, dp3, fa56_0, ia24]
    | (refine drW_intro (by kernel_rfl) ?_)
    | (refine gw_intro (fun h => ?_) (fun h => ?_) <;> (try simp only [beq_true, beq_false, Bool.not_eq_eq_eq_not, Bool.not_true, Bool.not_false, Bool.not_not, decide_eq_true_eq, decide_eq_false_iff_not, ge_iff_le, gt_iff_lt] at h)))
          refine hn _ ⟨nx, done, G2, ?_, ?_, ?_, ?_, ?_, D2, T⟩ ?_
          · simp only [*, put_slot, dem_slot, ↓reduceIte, reduceCtorEq]
          · simp only [*, put_slot, ↓reduceIte]
          · simp only [*, put_slot, dem_slot, ↓reduceIte, Nat.reduceEqDiff]
          · simp only [*, put_slot, dem_slot, ↓reduceIte, Nat.reduceEqDiff]
          · simp only [*, put_room, dem_room, dem_room1, ↓reduceIte, Nat.reduceEqDiff]
          · simp only [slotI, *, put_slot, ↓reduceIte, Int.toNat_natCast]
            omega
        · have b3 : (kd ts i == 3) = false := beq_eq_false_iff_ne.2 h3
          rw [if_neg h3] at hinv'
          have hU : callL Try.prog ext9 33 [Tks ts, .int .i64 (i : Nat), .int .i64 (e : Nat), .int .i64 17, .int .i64 17] [] = some (.int .i64 (semiE ts e i : Nat), [.no], []) := runtil_L hl het hai2 17 17
          have hpos := semiE_pos hlt h17
          have hD := rdecl_L hTL (show semiE ts e i ≤ ts.length by omega) hpos.1
          generalize declF ts i (semiE ts e i) = q at *
          generalize semiE ts e i = nx at *
          obtain ⟨x, ok⟩ := q
          have hD' : callL Try.prog ext9 35 [Tks ts, .int .i64 (i : Nat), .int .i64 (nx : Nat)] [] = some (.tuple [.agg [.str x.name, .int .i64 (x.fr : Nat), .int .i64 (x.to : Nat), .bool x.imp], .bool ok], [.no, .no], []) := hD
          have G2 := Hd.mk (show a ≤ nx ∧ nx ≤ e by omega)
          have D2 := Hd.mk (show a + done.length ≤ nx by omega)
          have D3 := Hd.mk (show a + (done ++ [x]).length ≤ nx by simp; omega)
          dsimp only at hinv'
          clear h3 h17 hie hai hdl hdl' hTL hall G D1 hD
          by_cases h1 : kd ts i = 1
          · have b1 : (kd ts i == 1) = true := beq_iff_eq.2 h1
            cases ok with
            | true =>
              rw [if_pos ⟨h1, rfl⟩] at hinv'
              have T := Hd.mk (show (done ++ [x]) ++ declsF ts e nx = all by rw [← hinv']; simp)
              have hap := snocDe done x
              have hrm2 : st.room 7 = [.full] ∨ st.room 7 = [.own 41] := by
                rcases hrm with h | h
                · exact .inl h.2
                · exact .inr h.2
              clear hinv hinv' h1 hrm D2
              rcases hrm2 with hrm2 | hrm2
              all_goals
                repeat' (first
    | simp only [*, go_nil, go_seq, go_cond, go_block, go_blk, go_skip, go_region, go_ops_nil, go_ops, okG_some, okB_some, gwD_bool, cwD_bool, gw_true, gw_false, guardG, opG, isPtr, inB, sval, stake, eats, eaters, get, cval, cval1, croom, St.taken, put_slot, put_room, put_box, put_ctr, put_none, dem_none, dem_slot, dem_box, dem_ctr, dem_room, dem_room1, setBox_slot, setBox_room, setBox_box, ↓reduceIte, Nat.reduceEqDiff, Nat.reduceLT, Nat.reduceLeDiff, reduceCtorEq, decide_true, List.filterMap_cons, List.filterMap_nil, Option.bind_some, Option.map_some, List.getElem?_cons_zero, List.getElem?_cons_succ, List.contains_cons, List.contains_nil, List.map_cons, List.map_nil, beq_self_eq_true, Bool.or_false, Bool.or_true, Bool.and_true, Nat.reduceBEq, Bool.false_eq_true, dbin, dIntBin, okR, callG, row9, frz9, frzOf_def, frz_nil, pureB, leaf, leafN, List.all_cons, List.all_nil, List.nil_append, List.append_nil, List.length_nil, List.length_cons, List.take_zero, List.drop_zero, List.drop_succ_cons, dcells, Nat.zero_add, Nat.reduceAdd, stepBox, Bool.and_false, and_true, Int.natCast_nonneg, Int.toNat_natCast, and_self, Nat.add_zero, or_true, or_false, szOk_cons, List.cons.injEq, List.getElem?_toArray, dStrBin, dp3, fa56_0, ia24, ty41, dp41, zr41, ap35, bs35, Nat.le_refl]
    | (refine drW_intro (by kernel_rfl) ?_)
    | (refine gw_intro (fun h => ?_) (fun h => ?_) <;> (try simp only [beq_true, beq_false, Bool.not_eq_eq_eq_not, Bool.not_true, Bool.not_false, Bool.not_not, decide_eq_true_eq, decide_eq_false_iff_not, ge_iff_le, gt_iff_lt] at h)))
                refine hn _ ⟨nx, done ++ [x], G2, ?_, ?_, ?_, ?_, .inr ⟨Hd.mk (by simp), ?_⟩, D3, T⟩ ?_
                · simp only [*, put_slot, dem_slot, setBox_slot, ↓reduceIte, reduceCtorEq]
                · simp only [*, put_slot, ↓reduceIte]
                · simp only [*, put_slot, dem_slot, setBox_slot, ↓reduceIte, Nat.reduceEqDiff]
                · simp only [*, put_slot, dem_slot, ↓reduceIte, Nat.reduceEqDiff]
                · simp only [*, put_room, dem_room, ↓reduceIte, Nat.reduceEqDiff]
                · simp only [slotI, *, put_slot, ↓reduceIte, Int.toNat_natCast]
                  omega
            | false =>
              rw [if_neg (by simp)] at hinv'
              have T := Hd.mk hinv'
              clear hinv hinv' h1 D3
              repeat' (first
    | simp only [*, go_nil, go_seq, go_cond, go_block, go_blk, go_skip, go_region, go_ops_nil, go_ops, okG_some, okB_some, gwD_bool, cwD_bool, gw_true, gw_false, guardG, opG, isPtr, inB, sval, stake, eats, eaters, get, cval, cval1, croom, St.taken, put_slot, put_room, put_box, put_ctr, put_none, dem_none, dem_slot, dem_ctr, dem_room, dem_room1, setBox_slot, setBox_room, setBox_box, ↓reduceIte, Nat.reduceEqDiff, Nat.reduceLT, reduceCtorEq, decide_true, List.filterMap_cons, List.filterMap_nil, Option.bind_some, Option.map_some, List.getElem?_cons_zero, List.getElem?_cons_succ, List.contains_cons, List.contains_nil, List.map_cons, List.map_nil, beq_self_eq_true, Bool.or_false, Bool.or_true, Bool.and_true, Nat.reduceBEq, Bool.false_eq_true, dbin, dIntBin, okR, callG, row9, frz9, frzOf_def, frz_nil, pureB, leaf, leafN, List.all_cons, List.all_nil, List.nil_append, List.append_nil, List.length_nil, List.length_cons, List.take_zero, List.drop_zero, List.drop_succ_cons, dcells, Nat.zero_add, Nat.reduceAdd, stepBox, Bool.and_false, Int.natCast_nonneg, Int.toNat_natCast, and_self, Nat.add_zero, dStrBin, dp3, fa56_0, ia24, ty41, zr41, Nat.le_refl]
    | (refine drW_intro (by kernel_rfl) ?_)
    | (refine gw_intro (fun h => ?_) (fun h => ?_) <;> (try simp only [beq_true, beq_false, Bool.not_eq_eq_eq_not, Bool.not_true, Bool.not_false, Bool.not_not, decide_eq_true_eq, decide_eq_false_iff_not, ge_iff_le, gt_iff_lt] at h)))
              refine hn _ ⟨nx, done, G2, ?_, ?_, ?_, ?_, ?_, D2, T⟩ ?_
              · simp only [*, put_slot, dem_slot, setBox_slot, ↓reduceIte, reduceCtorEq]
              · simp only [*, put_slot, ↓reduceIte]
              · simp only [*, put_slot, dem_slot, setBox_slot, ↓reduceIte, Nat.reduceEqDiff]
              · simp only [*, put_slot, dem_slot, setBox_slot, ↓reduceIte, Nat.reduceEqDiff]
              · simp only [*, put_room, dem_room, dem_room1, setBox_room, ↓reduceIte, Nat.reduceEqDiff]
              · simp only [slotI, *, put_slot, ↓reduceIte, Int.toNat_natCast]
                omega
          · have b1 : (kd ts i == 1) = false := beq_eq_false_iff_ne.2 h1
            rw [if_neg (fun hh => h1 hh.1)] at hinv'
            have T := Hd.mk hinv'
            clear hinv hinv' h1 D3
            repeat' (first
    | simp only [*, go_nil, go_seq, go_cond, go_block, go_blk, go_skip, go_region, go_ops_nil, go_ops, okG_some, okB_some, gwD_bool, cwD_bool, gw_true, gw_false, guardG, opG, isPtr, inB, sval, stake, eats, eaters, get, cval, cval1, croom, St.taken, put_slot, put_room, put_box, put_ctr, put_none, dem_none, dem_slot, dem_ctr, dem_room, dem_room1, setBox_slot, setBox_room, setBox_box, ↓reduceIte, Nat.reduceEqDiff, Nat.reduceLT, reduceCtorEq, decide_true, List.filterMap_cons, List.filterMap_nil, Option.bind_some, Option.map_some, List.getElem?_cons_zero, List.getElem?_cons_succ, List.contains_cons, List.contains_nil, List.map_cons, List.map_nil, beq_self_eq_true, Bool.or_false, Bool.or_true, Bool.and_true, Nat.reduceBEq, Bool.false_eq_true, dbin, dIntBin, okR, callG, row9, frz9, frzOf_def, frz_nil, beq_true, pureB, leaf, leafN, List.all_cons, List.all_nil, List.nil_append, List.append_nil, List.length_nil, List.length_cons, List.take_zero, List.drop_zero, List.drop_succ_cons, dcells, Nat.zero_add, Nat.reduceAdd, stepBox, Bool.and_false, Int.natCast_nonneg, Int.toNat_natCast, and_self, Nat.add_zero, dStrBin, dp3, fa56_0, ia24, ty41, zr41, Nat.le_refl]
    | (refine drW_intro (by kernel_rfl) ?_)
    | (refine gw_intro (fun h => ?_) (fun h => ?_) <;> (try simp only [beq_true, beq_false, Bool.not_eq_eq_eq_not, Bool.not_true, Bool.not_false, Bool.not_not, decide_eq_true_eq, decide_eq_false_iff_not, ge_iff_le, gt_iff_lt] at h)))
            refine hn _ ⟨nx, done, G2, ?_, ?_, ?_, ?_, ?_, D2, T⟩ ?_
            · simp only [*, put_slot, dem_slot, setBox_slot, ↓reduceIte, reduceCtorEq]
            · simp only [*, put_slot, ↓reduceIte]
            · simp only [*, put_slot, dem_slot, setBox_slot, ↓reduceIte, Nat.reduceEqDiff]
            · simp only [*, put_slot, dem_slot, setBox_slot, ↓reduceIte, Nat.reduceEqDiff]
            · simp only [*, put_room, dem_room, dem_room1, setBox_room, ↓reduceIte, Nat.reduceEqDiff]
            · simp only [slotI, *, put_slot, ↓reduceIte, Int.toNat_natCast]
              omega
end Go.Av
/- Chapter 19: the laws of rules, of declarations, of values: they hand back true. -/
set_option linter.unusedSimpArgs false
set_option linter.unusedVariables false
set_option linter.unusedSectionVars false
set_option maxRecDepth 100000
namespace Go.Av
open Go.Proofs Go.Proofs.Ytaldmffahmomoaa Go.RowKit
theorem sp8_L : callL Try.prog ext9 8 [] [] = some (.bool true, [], []) := callL_ext rfl
theorem bLen (zs : List Int) : ((zs.map (D.int .u8)).length : Int) = zs.length := by simp
theorem rulesN_len {ts : List Tk} {e : Nat} {top : Bool} : ∀ (n a : Nat), (rulesN ts e top n a).length ≤ n
  | 0, _ => by simp [rulesN]
  | n + 1, a => by
    unfold rulesN
    have h1 := rulesN_len (ts := ts) (e := e) (top := top) n (a + 1)
    have h2 := rulesN_len (ts := ts) (e := e) (top := top) n (atRuleF ts e a).2
    have h3 := rulesN_len (ts := ts) (e := e) (top := top) n (behindF (kd ts) e (headE ts e a)).1
    repeat' split
    all_goals first
      | omega
      | (simp only [List.length_cons, List.length_nil]; omega)
theorem declsN_len {ts : List Tk} {e : Nat} : ∀ (n a : Nat), (declsN ts e n a).length ≤ n
  | 0, _ => by simp [declsN]
  | n + 1, a => by
    unfold declsN
    have h1 := declsN_len (ts := ts) (e := e) n (a + 1)
    have h2 := declsN_len (ts := ts) (e := e) n (atRuleF ts e a).2
    have h3 := declsN_len (ts := ts) (e := e) n (semiE ts e a)
    repeat' split
    all_goals first
      | omega
      | (simp only [List.length_cons, List.length_nil]; omega)
theorem cut_len (ts : List Tk) (fr to : Int) : (cutF ts fr to).2 - (cutF ts fr to).1 ≤ ts.length := by
  have h1 := cutF_le ts fr to
  omega
set_option maxHeartbeats 4000000 in
theorem law4_L (zs : List Int) (hz : BytesOK zs) (fr to : Int) : callL Try.prog ext9 4 [.list (zs.map (D.int .u8)), .int .i64 fr, .int .i64 to] [] = some (.bool true, [.no], []) := by
  have lN := bLen zs
  have h8 := sp8_L
  refine callK (m := 24) (res := [6]) (rs := [.tmp 6]) rfl Try.func4 rfl rfl rfl rfl rfl ?_
  by_cases hl : (zs.length : Int) > 3000
  · clear hz
    repeat' (first
    | simp only [*, go_seq, go_cond, go_skip, go_retc, go_region, go_ops_nil, go_ops, okG_some, cwD_bool, gw_true, gw_false, guardG, opG, isPtr, inB, sval, stake, eats, eaters, get, cval, cval1, croom, St.taken, put_slot, put_room, put_box, dem_none, entry_slot, entry_box, endQ, endR, endV, rvars, rvar, room1, ↓reduceIte, Nat.reduceLT, reduceCtorEq, decide_true, List.filterMap_cons, List.filterMap_nil, Option.map_some, List.getD_cons_zero, List.contains_cons, List.contains_nil, List.map_cons, List.map_nil, Bool.or_false, Nat.reduceBEq, Bool.false_eq_true, dbin, dIntBin, okR, callG, row9, frz9, frzOf_def, frz_nil, Bool.not_true, pureB, leaf, leafN, List.all_nil, List.append_nil, List.take_nil, List.range_zero, List.length_nil, dun, List.getElem?_nil, Bool.and_false, and_self, gt_iff_lt, len22]
    | (refine drW_intro (by kernel_rfl) ?_)
    | (refine gw_intro (fun h => ?_) (fun h => ?_) <;> (try simp only [beq_true, beq_false, Bool.not_eq_eq_eq_not, Bool.not_true, Bool.not_false, Bool.not_not, decide_eq_true_eq, decide_eq_false_iff_not, ge_iff_le, gt_iff_lt] at h)))
  · have hR := read_L zs hz (by omega)
    have hT := tokens_TL (prep_CL zs (by omega))
    have hT2 : TL (readT zs) := hT
    generalize readT zs = ts at *
    obtain ⟨r1, h1⟩ := decls_L hT2 fr to
    obtain ⟨r2, h2⟩ := rdecls_L hT2 fr to
    have hc := cut_len ts fr to
    have hlen : (declsF ts (cutF ts fr to).2 (cutF ts fr to).1).length ≤ 1000000 := by
      have := declsN_len (ts := ts) (e := (cutF ts fr to).2) ((cutF ts fr to).2 - (cutF ts fr to).1) (cutF ts fr to).1
      have := hT2.len
      unfold declsF
      omega
    have h3 := sameDecls_L _ hlen
    generalize declsF ts (cutF ts fr to).2 (cutF ts fr to).1 = ds at *
    clear hz hT hT2 hc hlen
    repeat' (first
    | simp only [*, go_seq, go_cond, go_skip, go_retc, go_region, go_ops_nil, go_ops, okG_some, cwD_bool, gw_false, guardG, opG, isPtr, inB, sval, stake, eats, eaters, get, cval, cval1, croom, St.taken, put_slot, put_room, put_box, dem_none, dem_slot, dem_box, entry_slot, entry_box, endQ, endR, endV, rvars, rvar, room1, ↓reduceIte, Nat.reduceEqDiff, Nat.reduceLT, reduceCtorEq, decide_true, decide_false, List.filterMap_cons, List.filterMap_nil, Option.map_some, List.getD_cons_zero, List.getD_cons_succ, List.contains_cons, List.contains_nil, List.map_cons, List.map_nil, beq_self_eq_true, Bool.or_false, Bool.and_true, Nat.reduceBEq, Bool.false_eq_true, dbin, dIntBin, okR, callG, row9, frz9, frzOf_def, frz_nil, Bool.not_true, pureB, leaf, leafN, List.all_cons, List.all_nil, List.nil_append, List.append_nil, List.take_nil, List.range_zero, List.length_nil, dun, List.getElem?_nil, List.take_succ_cons, Bool.and_false, and_self, gt_iff_lt, len22]
    | (refine drW_intro (by kernel_rfl) ?_)
    | (refine gw_intro (fun h => ?_) (fun h => ?_) <;> (try simp only [beq_true, beq_false, Bool.not_eq_eq_eq_not, Bool.not_true, Bool.not_false, Bool.not_not, decide_eq_true_eq, decide_eq_false_iff_not, ge_iff_le, gt_iff_lt] at h)))
set_option maxHeartbeats 4000000 in
theorem law7_L (zs : List Int) (hz : BytesOK zs) (fr to : Int) : callL Try.prog ext9 7 [.list (zs.map (D.int .u8)), .int .i64 fr, .int .i64 to] [] = some (.bool true, [.no], []) := by
  have lN := bLen zs
  have h8 := sp8_L
  refine callK (m := 70) (res := [6]) (rs := [.tmp 6]) rfl Try.func7 rfl rfl rfl rfl rfl ?_
  by_cases hl : (zs.length : Int) > 3000
  · clear hz
    repeat' (first
    | simp only [*, go_seq, go_cond, go_skip, go_retc, go_region, go_ops_nil, go_ops, okG_some, cwD_bool, gw_true, gw_false, guardG, opG, isPtr, inB, sval, stake, eats, eaters, get, cval, cval1, croom, St.taken, put_slot, put_room, put_box, dem_none, entry_slot, entry_box, endQ, endR, endV, rvars, rvar, room1, ↓reduceIte, Nat.reduceLT, reduceCtorEq, decide_true, List.filterMap_cons, List.filterMap_nil, Option.map_some, List.getD_cons_zero, List.contains_cons, List.contains_nil, List.map_cons, List.map_nil, Bool.or_false, Nat.reduceBEq, Bool.false_eq_true, dbin, dIntBin, okR, callG, row9, frz9, frzOf_def, frz_nil, Bool.not_true, pureB, leaf, leafN, List.all_nil, List.append_nil, List.take_nil, List.range_zero, List.length_nil, dun, List.getElem?_nil, Bool.and_false, and_self, gt_iff_lt, len22]
    | (refine drW_intro (by kernel_rfl) ?_)
    | (refine gw_intro (fun h => ?_) (fun h => ?_) <;> (try simp only [beq_true, beq_false, Bool.not_eq_eq_eq_not, Bool.not_true, Bool.not_false, Bool.not_not, decide_eq_true_eq, decide_eq_false_iff_not, ge_iff_le, gt_iff_lt] at h)))
  · have hR := read_L zs hz (by omega)
    have hT := tokens_TL (prep_CL zs (by omega))
    have hT2 : TL (readT zs) := hT
    generalize readT zs = ts at *
    have h1 := trim_L ts hT2.len fr to
    have h2 := rtrim_L ts hT2.len fr to
    have h3 := cut_L ts hT2.len fr to
    have h4 := valueAt_L ts hT2.len fr to
    have hle := cutF_le ts fr to
    have hge := cutF_ge ts fr to
    generalize trimF ts fr to = q at *
    have hq1 : ((q.1 : Int) == (q.1 : Int)) = true := by simp
    have hq2 : ((q.2 : Int) == (q.2 : Int)) = true := by simp
    generalize (cutF ts fr to).1 = a at *
    generalize (cutF ts fr to).2 = e at *
    by_cases hae : e ≤ a
    · rw [if_pos hae] at h4
      have g1 : ¬ (a : Int) < e := by omega
      have hq3 : (fr == fr) = true := by simp
      clear hz hT hT2 hae hle hge
      repeat' (first
    | simp only [*, go_seq, go_cond, go_skip, go_retc, go_region, go_ops_nil, go_ops, okG_some, gwD_bool, cwD_bool, gw_true, gw_false, guardG, opG, isPtr, inB, sval, stake, eats, eaters, get, cval, cval1, croom, St.taken, put_slot, put_room, put_box, dem_none, dem_slot, dem_box, dem_room, dem_room1, setBox_slot, setBox_room, entry_slot, entry_room, entry_box, endQ, endR, endV, rvars, rvar, room1, ↓reduceIte, Nat.reduceEqDiff, Nat.reduceLT, reduceCtorEq, decide_true, decide_false, List.filterMap_cons, List.filterMap_nil, Option.bind_some, Option.map_some, List.getElem?_cons_zero, List.getElem?_cons_succ, List.getD_cons_zero, List.getD_cons_succ, List.contains_cons, List.contains_nil, List.map_cons, List.map_nil, beq_self_eq_true, Bool.or_false, Bool.or_true, Bool.and_true, Nat.reduceBEq, Bool.false_eq_true, dbin, dIntBin, okR, callG, row9, frz9, frzOf_def, frz_nil, Bool.not_true, pureB, leaf, leafN, List.all_cons, List.all_nil, List.nil_append, List.append_nil, List.take_nil, List.range_zero, List.length_nil, dun, List.getElem?_nil, Bool.and_false, and_self, gt_iff_lt, dStrBin, len22, pid0, stepPtr]
    | (refine drW_intro (by kernel_rfl) ?_)
    | (refine gw_intro (fun h => ?_) (fun h => ?_) <;> (try simp only [beq_true, beq_false, Bool.not_eq_eq_eq_not, Bool.not_true, Bool.not_false, Bool.not_not, decide_eq_true_eq, decide_eq_false_iff_not, ge_iff_le, gt_iff_lt] at h)))
    · rw [if_neg hae] at h4
      have g1 : (a : Int) < e := by omega
      have h5 := behindR_L hT2.len (show e ≤ ts.length by omega) (show a < e by omega)
      generalize behindF (kd ts) e a = p at *
      have hq3 : ((p.1 : Int) == (p.1 : Int)) = true := by simp
      clear hz hT hT2 hae hle hge
      repeat' (first
    | simp only [*, go_seq, go_cond, go_skip, go_retc, go_region, go_ops_nil, go_ops, okG_some, gwD_bool, cwD_bool, gw_true, gw_false, guardG, opG, isPtr, inB, sval, stake, eats, eaters, get, cval, cval1, croom, St.taken, put_slot, put_room, put_box, dem_none, dem_slot, dem_box, dem_room, dem_room1, setBox_slot, setBox_room, entry_slot, entry_room, entry_box, endQ, endR, endV, rvars, rvar, room1, ↓reduceIte, Nat.reduceEqDiff, Nat.reduceLT, reduceCtorEq, decide_true, decide_false, List.filterMap_cons, List.filterMap_nil, Option.bind_some, Option.map_some, List.getElem?_cons_zero, List.getElem?_cons_succ, List.getD_cons_zero, List.getD_cons_succ, List.contains_cons, List.contains_nil, List.map_cons, List.map_nil, beq_self_eq_true, Bool.or_false, Bool.or_true, Bool.and_true, Nat.reduceBEq, Bool.false_eq_true, dbin, dIntBin, okR, callG, row9, frz9, frzOf_def, frz_nil, Bool.not_true, pureB, leaf, leafN, List.all_cons, List.all_nil, List.nil_append, List.append_nil, List.take_nil, List.range_zero, List.length_nil, dun, List.getElem?_nil, Bool.and_false, and_self, gt_iff_lt, dStrBin, len22, pid0, stepPtr]
    | (refine drW_intro (by kernel_rfl) ?_)
    | (refine gw_intro (fun h => ?_) (fun h => ?_) <;> (try simp only [beq_true, beq_false, Bool.not_eq_eq_eq_not, Bool.not_true, Bool.not_false, Bool.not_not, decide_eq_true_eq, decide_eq_false_iff_not, ge_iff_le, gt_iff_lt] at h)))
/-- Rules stand one behind the other. -/
def OrdR (e : Nat) : Nat → List Ru → Prop
  | _, [] => True
  | at_, r :: rs => (at_ ≤ r.fr ∧ r.fr ≤ r.to ∧ r.to ≤ e ∧ (r.has = true → r.to < r.opn ∧ r.opn ≤ r.en ∧ r.en ≤ e)) ∧ OrdR e (if r.has then r.en else r.to) rs
theorem behindF_end {ks : Nat → Int} {e a : Nat} : (behindF ks e a).2 ≤ (behindF ks e a).1 := by
  unfold behindF
  split
  · exact Nat.le_refl _
  · dsimp only
    split
    · exact Nat.le_succ _
    · exact Nat.le_refl _
theorem rules_ord {ts : List Tk} {e : Nat} {top : Bool} : ∀ (n a at_ : Nat), at_ ≤ a → a ≤ e → OrdR e at_ (rulesN ts e top n a)
  | 0, _, _, _, _ => trivial
  | n + 1, a, at_, h0, h1 => by
    unfold rulesN
    by_cases hlt : a < e
    · rw [if_pos hlt]
      split
      · exact rules_ord n (a + 1) at_ (by omega) (by omega)
      · split
        · have hp := atRuleF_pos (ts := ts) hlt
          obtain ⟨k1, k2, k3⟩ := atEnd_case (ts := ts) hlt
          have key : (at_ ≤ (atRuleF ts e a).1.fr ∧ (atRuleF ts e a).1.fr ≤ (atRuleF ts e a).1.to ∧ (atRuleF ts e a).1.to ≤ e ∧ ((atRuleF ts e a).1.has = true → (atRuleF ts e a).1.to < (atRuleF ts e a).1.opn ∧ (atRuleF ts e a).1.opn ≤ (atRuleF ts e a).1.en ∧ (atRuleF ts e a).1.en ≤ e)) ∧
              (if (atRuleF ts e a).1.has then (atRuleF ts e a).1.en else (atRuleF ts e a).1.to) ≤ (atRuleF ts e a).2 := by
            unfold atRuleF
            split
            · simp only [Bool.false_eq_true, if_false]
              exact ⟨⟨by omega, k1, k2, fun h => by cases h⟩, Nat.le_refl _⟩
            · split
              · simp only [Bool.false_eq_true, if_false]
                exact ⟨⟨by omega, k1, k2, fun h => by cases h⟩, by omega⟩
              · have hb := behindF_pos (ks := kd ts) (e := e) (a := atEnd ts e a) (by omega)
                have hb2 := behindF_end (ks := kd ts) (e := e) (a := atEnd ts e a)
                simp only [if_true]
                exact ⟨⟨by omega, k1, k2, fun _ => by omega⟩, hb2⟩
          exact ⟨key.1, rules_ord n _ _ key.2 hp.2⟩
        · split
          · trivial
          · have hh := headE_pos (ts := ts) (e := e) (a := a)
            have hb := behindF_pos (ks := kd ts) (e := e) (a := headE ts e a) (by omega)
            have hb2 := behindF_end (ks := kd ts) (e := e) (a := headE ts e a)
            refine ⟨⟨h0, hh.1, hh.2 h1, fun _ => ?_⟩, ?_⟩
            · show headE ts e a < headE ts e a + 1 ∧ headE ts e a + 1 ≤ (behindF (kd ts) e (headE ts e a)).2 ∧ (behindF (kd ts) e (headE ts e a)).2 ≤ e
              omega
            · exact rules_ord n _ _ (by show (behindF (kd ts) e (headE ts e a)).2 ≤ _; exact hb2) hb.2.1
    · rw [if_neg hlt]
      trivial
set_option maxHeartbeats 8000000 in
theorem law3_L (zs : List Int) (hz : BytesOK zs) (fr to : Int) (top : Bool) : callL Try.prog ext9 3 [.list (zs.map (D.int .u8)), .int .i64 fr, .int .i64 to, .bool top] [] = some (.bool true, [.no], []) := by
  have lN := bLen zs
  have h8 := sp8_L
  refine callK (m := 97) (res := [8]) (rs := [.tmp 8]) rfl Try.func3 rfl rfl rfl rfl rfl ?_
  by_cases hl : (zs.length : Int) > 3000
  · clear hz
    repeat' (first
    | simp only [*, go_seq, go_cond, go_skip, go_retc, go_region, go_ops_nil, go_ops, okG_some, cwD_bool, gw_true, gw_false, guardG, opG, isPtr, inB, sval, stake, eats, eaters, get, cval, cval1, croom, St.taken, put_slot, put_room, put_box, dem_none, entry_slot, entry_box, endQ, endR, endV, rvars, rvar, room1, ↓reduceIte, Nat.reduceLT, reduceCtorEq, decide_true, List.filterMap_cons, List.filterMap_nil, Option.map_some, List.getD_cons_zero, List.contains_cons, List.contains_nil, List.map_cons, List.map_nil, Bool.or_false, Nat.reduceBEq, Bool.false_eq_true, dbin, dIntBin, okR, callG, row9, frz9, frzOf_def, frz_nil, Bool.not_true, pureB, leaf, leafN, List.all_nil, List.append_nil, List.take_nil, List.range_zero, List.length_nil, dun, List.getElem?_nil, Bool.and_false, and_self, gt_iff_lt, len22]
    | (refine drW_intro (by kernel_rfl) ?_)
    | (refine gw_intro (fun h => ?_) (fun h => ?_) <;> (try simp only [beq_true, beq_false, Bool.not_eq_eq_eq_not, Bool.not_true, Bool.not_false, Bool.not_not, decide_eq_true_eq, decide_eq_false_iff_not, ge_iff_le, gt_iff_lt] at h)))
  · have hR := read_L zs hz (by omega)
    have hT := tokens_TL (prep_CL zs (by omega))
    have hT2 : TL (readT zs) := hT
    generalize readT zs = ts at *
    obtain ⟨r1, h1⟩ := rules_L hT2 fr to top
    obtain ⟨r2, h2⟩ := rrules_L hT2 fr to top
    have hcut := cut_L ts hT2.len fr to
    have hc := cut_len ts fr to
    have hle := cutF_le ts fr to
    have hge := cutF_ge ts fr to
    have hlen : (rulesF ts (cutF ts fr to).2 top (cutF ts fr to).1).length ≤ 1000000 := by
      have := rulesN_len (ts := ts) (e := (cutF ts fr to).2) (top := top) ((cutF ts fr to).2 - (cutF ts fr to).1) (cutF ts fr to).1
      have := hT2.len
      unfold rulesF
      omega
    have hord := rules_ord (ts := ts) (e := (cutF ts fr to).2) (top := top) ((cutF ts fr to).2 - (cutF ts fr to).1) (cutF ts fr to).1 (cutF ts fr to).1 (Nat.le_refl _) hge
    have hord' : OrdR (cutF ts fr to).2 (cutF ts fr to).1 (rulesF ts (cutF ts fr to).2 top (cutF ts fr to).1) := hord
    have h3 := sameRules_L _ hlen
    have he64 : (cutF ts fr to).2 ≤ 1000000 ∨ rulesF ts (cutF ts fr to).2 top (cutF ts fr to).1 = [] := by
      rcases hle with h | h
      · have := hT2.len; exact .inl (by omega)
      · exact .inr (rulesF_end h)
    generalize rulesF ts (cutF ts fr to).2 top (cutF ts fr to).1 = rs at *
    generalize (cutF ts fr to).1 = a at *
    generalize (cutF ts fr to).2 = e at *
    have lR := lenRu rs
    have HO := Hd.mk hord'
    have HE := Hd.mk he64
    clear hz hT hT2 hc hord hord' hle hge he64
    repeat' (first
    | simp only [*, go_seq, go_cond, go_block, go_skip, go_loop, go_region, go_ops_nil, go_ops, okG_some, cwD_bool, gw_false, guardG, opG, isPtr, inB, sval, stake, eats, eaters, get, cval, cval1, croom, St.taken, put_slot, put_room, dem_none, dem_slot, dem_room, dem_room1, entry_slot, ↓reduceIte, Nat.reduceEqDiff, Nat.reduceLT, reduceCtorEq, decide_true, decide_false, List.filterMap_cons, List.filterMap_nil, Option.map_some, List.getElem?_cons_zero, List.getElem?_cons_succ, List.getD_cons_zero, List.getD_cons_succ, List.contains_cons, List.contains_nil, List.map_cons, List.map_nil, beq_self_eq_true, Bool.or_false, Bool.or_true, Bool.and_true, Nat.reduceBEq, Bool.false_eq_true, dbin, dIntBin, okR, callG, row9, frz9, frzOf_def, frz_nil, Bool.not_true, pureB, leaf, leafN, List.all_cons, List.all_nil, List.nil_append, List.append_nil, List.length_nil, dun, Bool.and_false, gt_iff_lt, len22, len26]
    | (refine drW_intro (by kernel_rfl) ?_)
    | (refine gw_intro (fun h => ?_) (fun h => ?_) <;> (try simp only [beq_true, beq_false, Bool.not_eq_eq_eq_not, Bool.not_true, Bool.not_false, Bool.not_not, decide_eq_true_eq, decide_eq_false_iff_not, ge_iff_le, gt_iff_lt] at h)))
    refine loopH (fun st => ∃ i at_ : Nat, i ≤ rs.length ∧ st.slot 42 = .list (rs.map Ru.d) ∧ st.slot 43 = .int .i64 rs.length ∧ st.slot 44 = .int .i64 i ∧ st.slot 11 = .int .i64 at_ ∧ st.slot 12 = .int .i64 e ∧ Hd (OrdR e at_ (rs.drop i))) (fun st => rs.length - slotI st 44) ?_ ?_
    · refine ⟨0, a, Nat.zero_le _, ?_, ?_, ?_, ?_, ?_, HO⟩
      all_goals simp only [*, put_slot, dem_slot, ↓reduceIte, Nat.reduceEqDiff]
      all_goals rfl
    · rintro st K ⟨i, at_, hi, g42, g43, g44, g11, g12, hO⟩ hn hx hr
      by_cases h : i < rs.length
      · have g1 : (i : Int) < rs.length := by omega
        have hw := wrapS i (by omega)
        have hdr : rs.drop i = rs[i] :: rs.drop (i + 1) := List.drop_eq_getElem_cons h
        have hO' : OrdR e at_ (rs.drop i) := hO
        rw [hdr] at hO'
        have hg : (rs.map Ru.d).getD i .bad = .agg [.bool rs[i].at_, .str rs[i].name, .int .i64 (rs[i].fr : Nat), .int .i64 (rs[i].to : Nat), .bool rs[i].has, .int .i64 (rs[i].opn : Nat), .int .i64 (rs[i].en : Nat)] := by simp [List.getD, h, Ru.d]
        have he : e ≤ 1000000 := by
          rcases (show e ≤ 1000000 ∨ rs = [] from HE) with h1 | h1
          · exact h1
          · rw [h1] at h; cases h
        generalize rs[i] = r at *
        obtain ⟨⟨o1, o2, o3, o4⟩, o5⟩ := hO'
        have O5 := Hd.mk o5
        have O4 := Hd.mk o4
        have q1 : ¬ (r.fr : Int) < (at_ : Int) := by omega
        have q2 : ¬ (r.to : Int) < (r.fr : Int) := by omega
        have q3 : ¬ (r.to : Int) > (e : Int) := by omega
        clear hO hdr o4 o5 hx hr
        cases hh : r.has with
        | false =>
          rw [hh] at hg
          have T : Hd (OrdR e r.to (rs.drop (i + 1))) := by
            have h1 : OrdR e (if r.has then r.en else r.to) (rs.drop (i + 1)) := O5
            rw [hh] at h1
            exact h1
          clear hh
          repeat' (first
    | simp only [*, go_nil, go_seq, go_cond, go_block, go_blk, go_skip, go_region, go_ops_nil, go_ops, okG_some, okB_some, gwD_bool, gwD_undef, cwD_bool, gw_true, gw_false, guardG, opG, inB, sval, stake, eats, eaters, get, cval, cval1, croom, St.taken, put_slot, put_room, put_box, put_ctr, put_none, dem_none, dem_slot, dem_box, setBox_slot, setBox_room, setBox_box, ↓reduceIte, Nat.reduceEqDiff, Nat.reduceLT, decide_true, decide_false, List.filterMap_cons, List.filterMap_nil, Option.bind_some, Option.map_some, List.getElem?_cons_zero, List.getElem?_cons_succ, List.contains_cons, List.contains_nil, beq_self_eq_true, Bool.or_false, Bool.and_true, Nat.reduceBEq, Bool.false_eq_true, dbin, dIntBin, row9, frz9, frzOf_def, frz_nil, beq_true, pureB, leaf, leafN, List.all_cons, List.all_nil, List.nil_append, List.append_nil, List.length_nil, List.length_cons, List.take_zero, List.drop_zero, List.drop_succ_cons, dcells, Nat.zero_add, Nat.reduceAdd, stepBox, Int.natCast_nonneg, Int.toNat_natCast, and_self, gt_iff_lt, dStrBin, dp3, dp4, ty32, dp32, fp32_2, fp32_3, fp32_4, zr32, ia26, Nat.le_refl]
    | (refine drW_intro (by kernel_rfl) ?_)
    | (refine gw_intro (fun h => ?_) (fun h => ?_) <;> (try simp only [beq_true, beq_false, Bool.not_eq_eq_eq_not, Bool.not_true, Bool.not_false, Bool.not_not, decide_eq_true_eq, decide_eq_false_iff_not, ge_iff_le, gt_iff_lt] at h)))
          refine hn _ ⟨i + 1, r.to, h, ?_, ?_, ?_, ?_, ?_, T⟩ ?_
          · simp only [*, put_slot, dem_slot, setBox_slot, ↓reduceIte, Nat.reduceEqDiff]
          · simp only [*, put_slot, dem_slot, setBox_slot, ↓reduceIte, Nat.reduceEqDiff]
          · simp only [*, put_slot, ↓reduceIte]
          · simp only [*, put_slot, ↓reduceIte, Nat.reduceEqDiff]
          · simp only [*, put_slot, dem_slot, setBox_slot, ↓reduceIte, Nat.reduceEqDiff]
          · simp only [slotI, *, put_slot, ↓reduceIte, Int.toNat_natCast]
            omega
        | true =>
          rw [hh] at hg
          have T : Hd (OrdR e r.en (rs.drop (i + 1))) := by
            have h1 : OrdR e (if r.has then r.en else r.to) (rs.drop (i + 1)) := O5
            rw [hh] at h1
            exact h1
          obtain ⟨p1, p2, p3⟩ := (show r.has = true → r.to < r.opn ∧ r.opn ≤ r.en ∧ r.en ≤ e from O4) hh
          have hwt : IntKind.i64.wrap ((r.to : Int) - 1) = (r.to : Int) - 1 := wrap64 _ (by omega) (by omega)
          have q4 : ¬ (r.opn : Int) ≤ (r.to : Int) - 1 := by omega
          have q5 : ¬ (r.en : Int) < (r.opn : Int) := by omega
          have q6 : ¬ (r.en : Int) > (e : Int) := by omega
          clear hh
          repeat' (first
    | simp only [*, go_nil, go_seq, go_cond, go_block, go_blk, go_skip, go_region, go_ops_nil, go_ops, okG_some, okB_some, gwD_bool, cwD_bool, gw_true, gw_false, guardG, opG, inB, sval, stake, eats, eaters, get, cval, cval1, croom, St.taken, put_slot, put_room, put_box, put_ctr, put_none, dem_none, dem_slot, dem_box, setBox_slot, setBox_room, setBox_box, ↓reduceIte, Nat.reduceEqDiff, Nat.reduceLT, decide_true, decide_false, List.filterMap_cons, List.filterMap_nil, Option.bind_some, Option.map_some, List.getElem?_cons_zero, List.getElem?_cons_succ, List.contains_cons, List.contains_nil, beq_self_eq_true, Bool.or_false, Bool.and_true, Nat.reduceBEq, Bool.false_eq_true, dbin, dIntBin, row9, frz9, frzOf_def, frz_nil, pureB, leaf, leafN, List.all_cons, List.all_nil, List.nil_append, List.append_nil, List.length_nil, List.length_cons, List.take_zero, List.drop_zero, List.drop_succ_cons, dcells, Nat.zero_add, Nat.reduceAdd, stepBox, Int.natCast_nonneg, Int.toNat_natCast, and_self, gt_iff_lt, dStrBin, dp3, dp4, ty32, dp32, fp32_2, fp32_3, fp32_4, fp32_5, fp32_6, zr32, ia26, Nat.le_refl]
    | (refine drW_intro (by kernel_rfl) ?_)
    | (refine gw_intro (fun h => ?_) (fun h => ?_) <;> (try simp only [beq_true, beq_false, Bool.not_eq_eq_eq_not, Bool.not_true, Bool.not_false, Bool.not_not, decide_eq_true_eq, decide_eq_false_iff_not, ge_iff_le, gt_iff_lt] at h)))
          refine hn _ ⟨i + 1, r.en, h, ?_, ?_, ?_, ?_, ?_, T⟩ ?_
          · simp only [*, put_slot, dem_slot, setBox_slot, ↓reduceIte, Nat.reduceEqDiff]
          · simp only [*, put_slot, dem_slot, setBox_slot, ↓reduceIte, Nat.reduceEqDiff]
          · simp only [*, put_slot, ↓reduceIte]
          · simp only [*, put_slot, ↓reduceIte, Nat.reduceEqDiff]
          · simp only [*, put_slot, dem_slot, setBox_slot, ↓reduceIte, Nat.reduceEqDiff]
          · simp only [slotI, *, put_slot, ↓reduceIte, Int.toNat_natCast]
            omega
      · have g1 : ¬ (i : Int) < rs.length := by omega
        clear hO hn hr HO HE
        repeat' (first
    | simp only [*, go_nil, go_seq, go_cond, go_exit, go_xcode, go_region, go_ops_nil, go_ops, okG_some, cwD_bool, gw_false, guardG, opG, inB, sval, stake, eats, eaters, get, put_slot, dem_none, ↓reduceIte, Nat.reduceLT, decide_true, decide_false, List.filterMap_cons, List.filterMap_nil, Option.map_some, List.contains_cons, List.contains_nil, Bool.or_false, Bool.false_eq_true, dbin, dIntBin, row9, frz9, frzOf_def, frz_nil]
    | (refine drW_intro (by kernel_rfl) ?_)
    | (refine gw_intro (fun h => ?_) (fun h => ?_) <;> (try simp only [beq_true, beq_false, Bool.not_eq_eq_eq_not, Bool.not_true, Bool.not_false, Bool.not_not, decide_eq_true_eq, decide_eq_false_iff_not, ge_iff_le, gt_iff_lt] at h)))
        refine hx _ _ ?_
        repeat' (first
    | simp only [*, go_seq, go_retc, go_xblk, go_region, go_ops_nil, go_ops, okG_some, guardG, opG, inB, sval, stake, eats, eaters, get, cval, cval1, croom, put_slot, put_room, put_box, dem_none, endQ, endR, endV, rvars, rvar, room1, ↓reduceIte, Nat.reduceLT, decide_true, List.filterMap_cons, List.filterMap_nil, List.contains_cons, List.contains_nil, List.map_nil, Bool.or_false, Bool.false_eq_true, row9, frz9, frzOf_def, frz_nil, pureB, leaf, leafN, List.take_nil, List.range_zero, and_self]
    | (refine drW_intro (by kernel_rfl) ?_)
    | (refine gw_intro (fun h => ?_) (fun h => ?_) <;> (try simp only [beq_true, beq_false, Bool.not_eq_eq_eq_not, Bool.not_true, Bool.not_false, Bool.not_not, decide_eq_true_eq, decide_eq_false_iff_not, ge_iff_le, gt_iff_lt] at h)))
end Go.Av
