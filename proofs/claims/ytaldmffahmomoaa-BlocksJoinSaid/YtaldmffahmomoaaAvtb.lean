/- The evaluator, in one text: over any program; no conditions but those that each law names. -/
import Derived.Test.YtaldmffahmomoaaAvta
import Derived.Test.YtaldmffahmomoaaPlT
set_option linter.unusedSimpArgs false
set_option linter.unusedVariables false
set_option linter.unusedSectionVars false
/- Chapter 19: the document's tokenizer: digits of base 16, escapes, texts, names. -/
set_option linter.unusedSimpArgs false
set_option linter.unusedVariables false
set_option linter.unusedSectionVars false
set_option maxRecDepth 100000
namespace Go.Av
open Go.Proofs Go.Proofs.Ytaldmffahmomoaa
def digS : List UInt8 := [48, 49, 50, 51, 52, 53, 54, 55, 56, 57, 97, 98, 99, 100, 101, 102]
def hexFrom (s : Int) : Nat → Nat → Int
  | 0, _ => -1
  | k + 1, i => if ((digS.getD i 0).toNat : Int) = s then (i : Int) else hexFrom s k (i + 1)
/-- The value of a digit of base 16; -1: it is none. -/
def hexC (c : Int) : Int := hexFrom (smC c) 16 0
theorem hexFrom_range (s : Int) : ∀ k i, -1 ≤ hexFrom s k i ∧ (hexFrom s k i ≤ i + k - 1 ∨ hexFrom s k i = -1)
  | 0, i => by simp [hexFrom]
  | k + 1, i => by
    unfold hexFrom
    have := hexFrom_range s k (i + 1)
    split <;> omega
theorem hexC_range (c : Int) : -1 ≤ hexC c ∧ hexC c ≤ 15 := by
  have := hexFrom_range (smC c) 16 0
  unfold hexC
  omega
set_option maxHeartbeats 4000000 in
theorem hex_L (c : Int) (h0 : 0 ≤ c) (h1 : c ≤ 1114111) : callL Try.prog ext9 75 [.int .i64 c] [] = some (.int .i64 (hexC c), [.no], []) := by
  have hs := sm_L c h0 h1
  refine callK (m := 17) (res := [2]) (rs := [.tmp 2]) rfl Try.func75 rfl rfl rfl rfl rfl ?_
  unfold hexC
  generalize smC c = s at *
  repeat' (first
    | simp only [*, go_seq, go_block, go_loop, go_region, go_ops_nil, go_ops, okG_some, guardG, opG, inB, sval, stake, eats, eaters, get, cval, cval1, croom, dem_none, ↓reduceIte, Nat.reduceLT, decide_true, List.filterMap_cons, List.filterMap_nil, List.contains_cons, List.contains_nil, Bool.or_false, Bool.false_eq_true, row9, frz9, frzOf_def, frz_nil, List.length_nil]
    | (refine drW_intro (by kernel_rfl) ?_)
    | (refine gw_intro (fun h => ?_) (fun h => ?_) <;> (try simp only [beq_true, beq_false, Bool.not_eq_eq_eq_not, Bool.not_true, Bool.not_false, Bool.not_not, decide_eq_true_eq, decide_eq_false_iff_not, ge_iff_le, gt_iff_lt] at h)))
  refine loopH (fun st => ∃ i : Nat, i ≤ 16 ∧ st.slot 4 = .int .i64 i ∧ st.slot 3 = .str digS ∧ st.slot 0 = .int .i64 c ∧ st.room 4 = [] ∧ Hd (hexFrom s (16 - i) i = hexFrom s 16 0)) (fun st => 16 - slotI st 4) ?_ ?_
  · refine ⟨0, by decide, ?_, ?_, ?_, ?_, rfl⟩
    all_goals simp only [*, put_slot, put_room, entry_slot, ↓reduceIte, Nat.reduceEqDiff, reduceCtorEq, List.getD_cons_zero]
    all_goals rfl
  · rintro st K ⟨i, hi, h4, h3, hc0, hr4, hinv⟩ hn hx hr
    by_cases hlt : i < 16
    · have hlt1 : (i : Int) < 16 := by omega
      have hw1 := w1 i (by omega)
      have hdl : (i : Int) < ((digS.length : Nat) : Int) := by show _ < (16 : Int); omega
      have hxb := (digS.getD i 0).toNat_lt
      have hinv' : hexFrom s (16 - i) i = hexFrom s 16 0 := hinv
      rw [show 16 - i = (16 - (i + 1)) + 1 by omega, hexFrom] at hinv'
      obtain ⟨x, hxe⟩ : ∃ x : Nat, (digS.getD i 0).toNat = x := ⟨_, rfl⟩
      rw [hxe] at hinv' hxb
      have hwx : IntKind.i64.wrap (x : Int) = x := wrap64 _ (by omega) (by omega)
      clear hinv
      by_cases he : (x : Int) = s
      · have he1 : ((x : Int) == s) = true := by simp [he]
        rw [if_pos he] at hinv'
        have T := hinv'.symm
        clear he hinv'
        repeat' (first
    | simp only [*, go_seq, go_cond, go_block, go_skip, go_retc, go_region, go_draw, go_ops_nil, go_ops, go_dops1, go_dops, okG_some, cwD_bool, gw_true, guardG, opG, opD, isPtr, isStore, inB, sval, stake, eats, eaters, get, cval, cval1, St.taken, put_slot, put_room, dem_none, ↓reduceIte, Nat.reduceEqDiff, Nat.reduceLT, reduceCtorEq, decide_true, List.filterMap_cons, List.filterMap_nil, Option.map_some, List.contains_cons, List.contains_nil, List.map_cons, List.map_nil, beq_self_eq_true, Bool.or_false, Bool.and_true, Nat.reduceBEq, Bool.false_eq_true, dbin, dIntBin, row9, frz9, frzOf_def, frz_nil, pureB, leaf, leafN, List.all_cons, List.all_nil, List.nil_append, List.append_nil, Bool.and_false, Int.natCast_nonneg, Int.toNat_natCast, and_self, plainR_s, ix9, cv53]
    | (refine drW_intro (by kernel_rfl) ?_)
    | (refine gw_intro (fun h => ?_) (fun h => ?_) <;> (try simp only [beq_true, beq_false, Bool.not_eq_eq_eq_not, Bool.not_true, Bool.not_false, Bool.not_not, decide_eq_true_eq, decide_eq_false_iff_not, ge_iff_le, gt_iff_lt] at h)))
        refine hr _ ?_
        repeat' (first
    | simp only [*, put_slot, put_room, put_box, dem_box, endQ, endR, endV, rvars, rvar, room1, ↓reduceIte, List.map_nil, pureB, leaf, leafN, List.take_nil, List.range_zero, and_self]
    | (refine drW_intro (by kernel_rfl) ?_)
    | (refine gw_intro (fun h => ?_) (fun h => ?_) <;> (try simp only [beq_true, beq_false, Bool.not_eq_eq_eq_not, Bool.not_true, Bool.not_false, Bool.not_not, decide_eq_true_eq, decide_eq_false_iff_not, ge_iff_le, gt_iff_lt] at h)))
      · have he1 : ((x : Int) == s) = false := by simp [he]
        rw [if_neg he] at hinv'
        have T := Hd.mk hinv'
        clear he hinv'
        repeat' (first
    | simp only [*, go_nil, go_seq, go_cond, go_block, go_blk, go_skip, go_region, go_draw, go_ops_nil, go_ops, go_dops1, go_dops, okG_some, cwD_bool, gw_true, gw_false, guardG, opG, opD, isPtr, isStore, inB, sval, stake, eats, eaters, get, cval, cval1, St.taken, put_slot, put_room, dem_none, ↓reduceIte, Nat.reduceEqDiff, Nat.reduceLT, reduceCtorEq, decide_true, List.filterMap_cons, List.filterMap_nil, Option.map_some, List.contains_cons, List.contains_nil, List.map_cons, List.map_nil, Bool.or_false, Bool.and_true, Nat.reduceBEq, Bool.false_eq_true, dbin, dIntBin, row9, frz9, frzOf_def, frz_nil, pureB, leaf, leafN, List.all_cons, List.all_nil, List.nil_append, List.append_nil, Bool.and_false, Int.natCast_nonneg, Int.toNat_natCast, and_self, plainR_s, ix9, cv53]
    | (refine drW_intro (by kernel_rfl) ?_)
    | (refine gw_intro (fun h => ?_) (fun h => ?_) <;> (try simp only [beq_true, beq_false, Bool.not_eq_eq_eq_not, Bool.not_true, Bool.not_false, Bool.not_not, decide_eq_true_eq, decide_eq_false_iff_not, ge_iff_le, gt_iff_lt] at h)))
        refine hn _ ⟨i + 1, by omega, ?_, ?_, ?_, ?_, T⟩ ?_
        · simp only [*, put_slot, ↓reduceIte]
        · simp only [*, put_slot, dem_slot, ↓reduceIte, Nat.reduceEqDiff]
        · simp only [*, put_slot, dem_slot, ↓reduceIte, reduceCtorEq]
        · simp only [*, put_room, ↓reduceIte]
        · simp only [slotI, *, put_slot, ↓reduceIte, Int.toNat_natCast]
          omega
    · have hge : ¬ (i : Int) < 16 := by omega
      have hinv' : hexFrom s (16 - i) i = hexFrom s 16 0 := hinv
      rw [show 16 - i = 0 by omega, hexFrom] at hinv'
      clear hinv
      repeat' (first
    | simp only [*, go_nil, go_seq, go_cond, go_exit, go_xcode, go_region, go_ops_nil, go_ops, okG_some, cwD_bool, gw_false, guardG, opG, inB, sval, stake, eats, eaters, get, cval, cval1, St.taken, put_slot, dem_none, ↓reduceIte, Nat.reduceLT, decide_true, decide_false, List.filterMap_cons, List.filterMap_nil, Option.map_some, List.contains_cons, List.contains_nil, Bool.or_false, Nat.reduceBEq, Bool.false_eq_true, dbin, dIntBin, row9, frz9, frzOf_def, frz_nil, Bool.and_false]
    | (refine drW_intro (by kernel_rfl) ?_)
    | (refine gw_intro (fun h => ?_) (fun h => ?_) <;> (try simp only [beq_true, beq_false, Bool.not_eq_eq_eq_not, Bool.not_true, Bool.not_false, Bool.not_not, decide_eq_true_eq, decide_eq_false_iff_not, ge_iff_le, gt_iff_lt] at h)))
      refine hx _ _ ?_
      repeat' (first
    | simp only [*, go_seq, go_retc, go_xblk, go_region, go_ops_nil, go_ops, okG_some, guardG, opG, inB, sval, stake, eats, eaters, get, cval, cval1, croom, put_slot, put_room, put_box, dem_none, endQ, endR, endV, rvars, rvar, room1, ↓reduceIte, Nat.reduceLT, decide_true, List.filterMap_cons, List.filterMap_nil, List.contains_cons, List.contains_nil, List.map_nil, Bool.or_false, Bool.false_eq_true, row9, frz9, frzOf_def, frz_nil, pureB, leaf, leafN, List.take_nil, List.range_zero, and_self]
    | (refine drW_intro (by kernel_rfl) ?_)
    | (refine gw_intro (fun h => ?_) (fun h => ?_) <;> (try simp only [beq_true, beq_false, Bool.not_eq_eq_eq_not, Bool.not_true, Bool.not_false, Bool.not_not, decide_eq_true_eq, decide_eq_false_iff_not, ge_iff_le, gt_iff_lt] at h)))
theorem right_L (c : Int) : callL Try.prog ext9 40 [.int .i64 c] [] = some (.bool (rightC c), [.no], []) := by
  refine callK (m := 17) (res := [2]) (rs := [.tmp 2]) rfl Try.func40 rfl rfl rfl rfl rfl ?_
  have e : rightC c = decide (0 ≤ c ∧ c ≤ 1114111 ∧ ¬ (55296 ≤ c ∧ c ≤ 57343)) := rfl
  rw [e]
  clear e
  repeat' (first
    | simp only [*, go_seq, go_retc, go_region, go_ops_nil, go_ops, okG_some, gwD_bool, gwD_undef, gw_true, gw_false, guardG, opG, inB, sval, stake, eats, eaters, get, cval, cval1, croom, St.taken, put_slot, put_room, put_box, dem_none, dem_box, entry_slot, entry_room, entry_box, endQ, endR, endV, rvars, rvar, room1, ↓reduceIte, Nat.reduceEqDiff, Nat.reduceLT, reduceCtorEq, decide_true, decide_false, List.filterMap_cons, List.filterMap_nil, Option.bind_some, Option.map_some, List.getElem?_cons_zero, List.getElem?_cons_succ, List.getD_cons_zero, List.contains_cons, List.contains_nil, List.map_nil, beq_self_eq_true, Bool.or_false, Nat.reduceBEq, Bool.false_eq_true, dbin, dIntBin, row9, frz9, frzOf_def, frz_nil, beq_true, beq_false, Bool.not_true, pureB, leaf, leafN, List.take_nil, List.range_zero, List.length_nil, List.getElem?_nil, Bool.and_false, and_true, true_and, and_self, false_and, ge_iff_le, gt_iff_lt, dStrBin]
    | (refine drW_intro (by kernel_rfl) ?_)
    | (refine gw_intro (fun h => ?_) (fun h => ?_) <;> (try simp only [Bool.not_eq_eq_eq_not, Bool.not_true, Bool.not_false, decide_eq_true_eq, decide_eq_false_iff_not] at h)))
  all_goals
    simp only [Prod.mk.injEq, D.bool.injEq, and_true]
    first
    | (symm; rw [decide_eq_true_iff]; omega)
    | (symm; rw [decide_eq_false_iff_not]; omega)
    | (rw [decide_eq_decide]; omega)
def hexRun (l : List Int) : Nat → Nat → Int → Int × Nat
  | 0, i, n => (n, i)
  | k + 1, i, n => if i < l.length ∧ 0 ≤ hexC (l.getD i 0) then hexRun l k (i + 1) (16 * n + hexC (l.getD i 0)) else (n, i)
/-- What an escape at a place stands for, and the place behind it. -/
def valF (l : List Int) (a : Nat) : Int × Nat :=
  if l.length ≤ a + 1 then (65533, a + 1) else
  if (hexRun l 6 (a + 1) 0).2 = a + 1 then (l.getD (a + 1) 0, a + 1 + 1) else
  (if (hexRun l 6 (a + 1) 0).1 = 0 ∨ rightC (hexRun l 6 (a + 1) 0).1 = false then 65533 else (hexRun l 6 (a + 1) 0).1,
   if atB spC l (hexRun l 6 (a + 1) 0).2 then (hexRun l 6 (a + 1) 0).2 + 1 else (hexRun l 6 (a + 1) 0).2)
theorem hexRun_pos (l : List Int) : ∀ k i n, i ≤ (hexRun l k i n).2 ∧ (hexRun l k i n).2 ≤ i + k ∧ (i ≤ l.length → (hexRun l k i n).2 ≤ l.length)
  | 0, i, n => by simp [hexRun]
  | k + 1, i, n => by
    unfold hexRun
    split
    · have := hexRun_pos l k (i + 1) (16 * n + hexC (l.getD i 0))
      omega
    · exact ⟨Nat.le_refl _, by omega, id⟩
theorem val_pos {l : List Int} {a : Nat} (ha : a < l.length) : a + 1 ≤ (valF l a).2 ∧ (valF l a).2 ≤ l.length := by
  unfold valF
  have h := hexRun_pos l 6 (a + 1) 0
  split
  · simp; omega
  · split
    · simp; omega
    · simp only
      split
      · rename_i h1
        simp only [atB, Bool.and_eq_true, decide_eq_true_eq] at h1
        omega
      · omega
theorem val_rng {l : List Int} (h : CL l) {a : Nat} (ha : a < l.length) : 0 ≤ (valF l a).1 ∧ (valF l a).1 ≤ 1114111 := by
  unfold valF
  split
  · simp
  · split
    · have := h.at (show a + 1 < l.length by omega)
      exact ⟨this.1, this.2.1⟩
    · simp only
      split
      · omega
      · rename_i h1
        have : rightC (hexRun l 6 (a + 1) 0).1 = true := by
          cases hr : rightC (hexRun l 6 (a + 1) 0).1 with
          | true => rfl
          | false => exact absurd (.inr hr) h1
        have := rightC_true.1 this
        omega
def pw : Nat → Int
  | 0 => 1
  | k + 1 => 16 * pw k
theorem pw_le (k : Nat) (h : k ≤ 6) : pw k ≤ 16777216 := by
  rcases (by omega : k = 0 ∨ k = 1 ∨ k = 2 ∨ k = 3 ∨ k = 4 ∨ k = 5 ∨ k = 6) with rfl | rfl | rfl | rfl | rfl | rfl | rfl <;> decide
theorem w7 (a : Nat) (h : a ≤ 200000) : IntKind.i64.wrap ((a : Int) + 7) = ((a + 7 : Nat) : Int) := by rw [wrap64 _ (by omega) (by omega)]; omega
set_option maxHeartbeats 4000000 in
theorem val_L {l : List Int} (h : CL l) (a : Nat) (ha : a ≤ 100050) : callL Try.prog ext9 66 [LI l, .int .i64 a] [] = some (.tuple [.int .i64 (valF l a).1, .int .i64 ((valF l a).2 : Nat)], [.no, .no], []) := by
  have lN := LIlen l
  have hw := w1 a (by omega)
  have hw7 := w7 a (by omega)
  refine callK (m := 67) (res := [4, 5]) (rs := [.tmp 4, .tmp 5]) rfl Try.func66 rfl rfl rfl rfl rfl ?_
  by_cases hal : l.length ≤ a + 1
  · have h1 : ((a + 1 : Nat) : Int) ≥ l.length := by omega
    have e : valF l a = (65533, a + 1) := by unfold valF; rw [if_pos hal]
    rw [e]
    clear e hal h
    repeat' (first
    | simp only [*, go_seq, go_cond, go_retc, go_region, go_ops_nil, go_ops, okG_some, cwD_bool, gw_true, guardG, opG, isPtr, inB, sval, stake, eats, eaters, get, cval, cval1, croom, St.taken, put_slot, put_room, put_box, dem_none, dem_slot, dem_box, dem_room, entry_slot, entry_box, endQ, endR, endV, rvars, rvar, room1, ↓reduceIte, Nat.reduceEqDiff, Nat.reduceLT, reduceCtorEq, decide_true, List.filterMap_cons, List.filterMap_nil, Option.map_some, List.getD_cons_zero, List.getD_cons_succ, List.contains_cons, List.contains_nil, List.map_cons, List.map_nil, beq_self_eq_true, Bool.or_false, Bool.or_true, Nat.reduceBEq, Bool.false_eq_true, dbin, dIntBin, row9, frz9, frzOf_def, frz_nil, pureB, leaf, leafN, List.take_nil, List.range_zero, List.length_nil, List.getElem?_nil, Bool.and_false, and_self, ge_iff_le, len44]
    | (refine drW_intro (by kernel_rfl) ?_)
    | (refine gw_intro (fun h => ?_) (fun h => ?_) <;> (try simp only [beq_true, beq_false, Bool.not_eq_eq_eq_not, Bool.not_true, Bool.not_false, Bool.not_not, decide_eq_true_eq, decide_eq_false_iff_not, ge_iff_le, gt_iff_lt] at h)))
  · have h1 : ¬ ((a + 1 : Nat) : Int) ≥ l.length := by omega
    have hl := h.len
    obtain ⟨c1, c2, c3⟩ := h.at (show a + 1 < l.length by omega)
    repeat' (first
    | simp only [*, go_seq, go_cond, go_block, go_skip, go_loop, go_region, go_ops_nil, go_ops, okG_some, cwD_bool, gw_false, guardG, opG, isPtr, inB, sval, stake, eats, eaters, get, cval, cval1, croom, St.taken, put_slot, put_room, dem_none, dem_slot, entry_slot, ↓reduceIte, Nat.reduceEqDiff, Nat.reduceLT, reduceCtorEq, decide_true, decide_false, List.filterMap_cons, List.filterMap_nil, Option.map_some, List.getD_cons_zero, List.getD_cons_succ, List.contains_cons, List.contains_nil, List.map_cons, List.map_nil, Bool.or_false, Nat.reduceBEq, Bool.false_eq_true, dbin, dIntBin, row9, frz9, frzOf_def, frz_nil, List.length_nil, Bool.and_false, ge_iff_le, len44]
    | (refine drW_intro (by kernel_rfl) ?_)
    | (refine gw_intro (fun h => ?_) (fun h => ?_) <;> (try simp only [beq_true, beq_false, Bool.not_eq_eq_eq_not, Bool.not_true, Bool.not_false, Bool.not_not, decide_eq_true_eq, decide_eq_false_iff_not, ge_iff_le, gt_iff_lt] at h)))
    refine loopH (fun st => ∃ (i : Nat) (n : Int), a + 1 ≤ i ∧ i ≤ a + 7 ∧ i ≤ l.length ∧ 0 ≤ n ∧ n < pw (i - (a + 1)) ∧ st.slot 6 = .int .i64 i ∧ st.slot 7 = .int .i64 n ∧ st.slot 0 = LI l ∧ st.slot 1 = .int .i64 a ∧ st.room 6 = [] ∧ st.room 7 = [] ∧ Hd (hexRun l (a + 7 - i) i n = hexRun l 6 (a + 1) 0)) (fun st => a + 7 - slotI st 6) ?_ ?_
    · refine ⟨a + 1, 0, Nat.le_refl _, by omega, by omega, Int.le_refl _, by rw [Nat.sub_self]; decide, ?_, ?_, ?_, ?_, ?_, ?_, by rw [show a + 7 - (a + 1) = 6 by omega]; exact rfl⟩
      all_goals simp only [*, put_slot, put_room, dem_slot, entry_slot, ↓reduceIte, Nat.reduceEqDiff, reduceCtorEq, List.getD_cons_zero, List.getD_cons_succ]
    · rintro st K ⟨i, n, hi1, hi7, hil, hn0, hn1, h6, h7, h0, h1', hr6, hr7, hinv⟩ hn hx hr
      have hpw := pw_le (i - (a + 1)) (by omega)
      have hinv' : hexRun l (a + 7 - i) i n = hexRun l 6 (a + 1) 0 := hinv
      by_cases hgo : i < l.length ∧ i < a + 7 ∧ 0 ≤ hexC (l.getD i 0)
      · obtain ⟨g1, g2, g3⟩ := hgo
        have g1' : (i : Int) < l.length := by omega
        have g2' : (i : Int) < ((a + 7 : Nat) : Int) := by omega
        obtain ⟨d1, d2, d3⟩ := h.at g1
        have hH := hex_L (l.getD i 0) d1 d2
        have hHr := hexC_range (l.getD i 0)
        rw [show a + 7 - i = (a + 7 - (i + 1)) + 1 by omega, hexRun, if_pos ⟨g1, g3⟩] at hinv'
        generalize l.getD i 0 = x at *
        generalize hexC x = hx1 at *
        have g3' : hx1 ≥ 0 := g3
        have m1 : IntKind.i64.wrap (16 * n) = 16 * n := wrap64 _ (by omega) (by omega)
        have m2 : IntKind.i64.wrap (16 * n + hx1) = 16 * n + hx1 := wrap64 _ (by omega) (by omega)
        have hw1 := w1 i (by omega)
        have T := Hd.mk hinv'
        have T2 := Hd.mk (show 16 * n + hx1 < pw (i + 1 - (a + 1)) by
          rw [show i + 1 - (a + 1) = (i - (a + 1)) + 1 by omega, pw]
          omega)
        have T3 := Hd.mk (show 0 ≤ 16 * n + hx1 by omega)
        clear hinv hinv' hpw hn1 c1 c2 h g3
        repeat' (first
    | simp only [*, go_nil, go_seq, go_cond, go_block, go_blk, go_skip, go_region, go_ops_nil, go_ops, okG_some, gwD_bool, cwD_bool, gw_true, guardG, opG, isPtr, inB, sval, stake, eats, eaters, get, cval, cval1, croom, St.taken, put_slot, put_room, dem_none, dem_slot, setBox_slot, setBox_room, ↓reduceIte, Nat.reduceEqDiff, Nat.reduceLT, reduceCtorEq, decide_true, List.filterMap_cons, List.filterMap_nil, Option.bind_some, Option.map_some, List.getElem?_cons_zero, List.getElem?_cons_succ, List.contains_cons, List.contains_nil, List.map_cons, List.map_nil, beq_self_eq_true, Bool.or_false, Bool.and_true, Nat.reduceBEq, Bool.false_eq_true, dbin, dIntBin, okR, callG, row9, frz9, frzOf_def, frz_nil, pureB, leaf, leafN, List.all_cons, List.all_nil, List.nil_append, List.append_nil, List.length_nil, List.length_cons, dcells, Nat.zero_add, Bool.and_false, Int.natCast_nonneg, Int.toNat_natCast, and_self, ge_iff_le, dStrBin, dp3, ia44, len44]
    | (refine drW_intro (by kernel_rfl) ?_)
    | (refine gw_intro (fun h => ?_) (fun h => ?_) <;> (try simp only [beq_true, beq_false, Bool.not_eq_eq_eq_not, Bool.not_true, Bool.not_false, Bool.not_not, decide_eq_true_eq, decide_eq_false_iff_not, ge_iff_le, gt_iff_lt] at h)))
        refine hn _ ⟨i + 1, 16 * n + hx1, by omega, by omega, by omega, T3, T2, ?_, ?_, ?_, ?_, ?_, ?_, T⟩ ?_
        · simp only [*, put_slot, ↓reduceIte]
        · simp only [*, put_slot, dem_slot, ↓reduceIte, Nat.reduceEqDiff]
        · simp only [*, put_slot, dem_slot, ↓reduceIte, reduceCtorEq]
        · simp only [*, put_slot, dem_slot, ↓reduceIte, Nat.reduceEqDiff]
        · simp only [*, put_room, ↓reduceIte]
        · simp only [*, put_room, dem_room, ↓reduceIte, Nat.reduceEqDiff]
        · simp only [slotI, *, put_slot, ↓reduceIte, Int.toNat_natCast]
          omega
      · have hend : hexRun l 6 (a + 1) 0 = (n, i) := by
          rw [← hinv']
          by_cases g2 : i < a + 7
          · rw [show a + 7 - i = (a + 7 - (i + 1)) + 1 by omega, hexRun, if_neg (fun hh => hgo ⟨hh.1, g2, hh.2⟩)]
          · rw [show a + 7 - i = 0 by omega, hexRun]
        have e : valF l a = if i = a + 1 then (l.getD (a + 1) 0, a + 1 + 1) else (if n = 0 ∨ rightC n = false then 65533 else n, if atB spC l i then i + 1 else i) := by
          unfold valF
          rw [if_neg hal, hend]
        rw [e] at hr hx
        have hgo' := Hd.mk hgo
        clear e hend hinv hinv' hgo hpw hn1
        have hsp := space_L h i
        have hrt := right_L n
        have hwi := w1 i (by omega)
        have h1i : ¬ ((a + 1 : Nat) : Int) ≥ l.length := h1
        have hia' : (((i : Nat) : Int) == ((a + 1 : Nat) : Int)) = decide (i = a + 1) := by
          rw [Bool.eq_iff_iff, beq_iff_eq, decide_eq_true_iff]; omega
        have fin : ∀ (b1 b2 b3 : Bool), decide (i < l.length) = b1 → decide (i < a + 7) = b2 → (b1 = true → decide (0 ≤ hexC (l.getD i 0)) = b3) → (b1 && b2 && b3) = false → K = K := fun _ _ _ _ _ _ _ => rfl
        clear fin
        generalize hrn : rightC n = rn at *
        generalize hsn : atB spC l i = sp at *
        have go : (i < l.length → ∃ x, (l.map (D.int .i64)).getD i .bad = .int .i64 x ∧ callL Try.prog ext9 75 [.int .i64 x] [] = some (.int .i64 (hexC x), [.no], []) ∧ l.getD i 0 = x) := fun hlt => by
          obtain ⟨d1, d2, d3⟩ := h.at hlt
          exact ⟨_, d3, hex_L _ d1 d2, rfl⟩
        by_cases hia : i = a + 1
        · rw [if_pos hia] at hr hx
          have hil2 : i < l.length := by omega
          obtain ⟨x, hx1, hx2, hx3⟩ := go hil2
          have hil3 : (i : Int) < l.length := by omega
          have ex : l.getD (a + 1) 0 = x := by rw [← hia]; exact hx3
          have hd : decide (i = a + 1) = true := by simp [hia]
          have hi7' : (i : Int) < ((a + 7 : Nat) : Int) := by omega
          have hng : ¬ hexC x ≥ 0 := fun hh => by
            have h2 : ¬ (i < l.length ∧ i < a + 7 ∧ 0 ≤ hexC (l.getD i 0)) := hgo'
            rw [hx3] at h2
            exact h2 ⟨hil2, by omega, hh⟩
          have hpp : ((a + 1 + 1 : Nat) : Int) = ((i + 1 : Nat) : Int) := by omega
          rw [hd] at hia'
          rw [ex, hpp] at hr hx
          clear hia hd c1 c2 c3 hsp hrt hsn hrn go hil2 h hx3 ex hi1 hi7 hil hpp
          generalize hexC x = hxx at *
          repeat' (first
    | simp only [*, go_nil, go_seq, go_cond, go_exit, go_xcode, go_region, go_ops_nil, go_ops, okG_some, gwD_bool, cwD_bool, gw_true, gw_false, guardG, opG, isPtr, inB, sval, stake, eats, eaters, get, cval, cval1, croom, St.taken, put_slot, put_room, dem_none, setBox_slot, setBox_room, ↓reduceIte, Nat.reduceEqDiff, Nat.reduceLT, reduceCtorEq, decide_true, decide_false, List.filterMap_cons, List.filterMap_nil, Option.bind_some, Option.map_some, List.getElem?_cons_zero, List.getElem?_cons_succ, List.contains_cons, List.contains_nil, List.map_cons, List.map_nil, beq_self_eq_true, Bool.or_false, Bool.and_true, Nat.reduceBEq, Bool.false_eq_true, dbin, dIntBin, okR, callG, row9, frz9, frzOf_def, frz_nil, pureB, leaf, leafN, List.all_cons, List.all_nil, List.nil_append, List.append_nil, List.length_nil, List.length_cons, dcells, Nat.zero_add, Bool.and_false, Int.natCast_nonneg, Int.toNat_natCast, and_self, ge_iff_le, dStrBin, dp3, ia44, len44]
    | (refine drW_intro (by kernel_rfl) ?_)
    | (refine gw_intro (fun h => ?_) (fun h => ?_) <;> (try simp only [beq_true, beq_false, Bool.not_eq_eq_eq_not, Bool.not_true, Bool.not_false, Bool.not_not, decide_eq_true_eq, decide_eq_false_iff_not, ge_iff_le, gt_iff_lt] at h)))
          refine hx _ _ ?_
          repeat' (first
    | simp only [*, go_seq, go_cond, go_retc, go_xblk, go_region, go_ops_nil, go_ops, okG_some, cwD_bool, gw_true, guardG, opG, inB, sval, stake, eats, eaters, get, cval, cval1, St.taken, put_slot, put_room, put_box, dem_none, dem_slot, dem_box, dem_room, endQ, endR, endV, rvars, rvar, room1, ↓reduceIte, Nat.reduceEqDiff, Nat.reduceLT, reduceCtorEq, decide_true, List.filterMap_cons, List.filterMap_nil, Option.map_some, List.getElem?_cons_zero, List.contains_cons, List.contains_nil, List.map_cons, List.map_nil, beq_self_eq_true, Bool.or_false, Bool.or_true, Nat.reduceBEq, Bool.false_eq_true, dbin, dIntBin, row9, frz9, frzOf_def, frz_nil, pureB, leaf, leafN, List.take_nil, List.range_zero, List.length_nil, List.length_cons, dcells, Nat.zero_add, Bool.and_false, Int.natCast_nonneg, Int.toNat_natCast, and_self, dp3, ia44]
    | (refine drW_intro (by kernel_rfl) ?_)
    | (refine gw_intro (fun h => ?_) (fun h => ?_) <;> (try simp only [beq_true, beq_false, Bool.not_eq_eq_eq_not, Bool.not_true, Bool.not_false, Bool.not_not, decide_eq_true_eq, decide_eq_false_iff_not, ge_iff_le, gt_iff_lt] at h)))
        · rw [if_neg hia] at hr hx
          have hd : decide (i = a + 1) = false := by simp [hia]
          rw [hd] at hia'
          by_cases g1 : i < l.length
          · obtain ⟨x, hx1, hx2, hx3⟩ := go g1
            have hil3 : (i : Int) < l.length := by omega
            by_cases g2 : i < a + 7
            · have g2' : (i : Int) < ((a + 7 : Nat) : Int) := by omega
              have hng : ¬ hexC x ≥ 0 := fun hh => by
                have h2 : ¬ (i < l.length ∧ i < a + 7 ∧ 0 ≤ hexC (l.getD i 0)) := hgo'
                rw [hx3] at h2
                exact h2 ⟨g1, g2, hh⟩
              clear hia hd c1 c2 c3 go g1 g2 h hx3 hi1 hi7 hil hrn hsn
              generalize hexC x = hxx at *
              by_cases hz : n = 0
              · have hzb : (n == 0) = true := by simp [hz]
                rw [if_pos (.inl hz)] at hr hx
                clear hz
                cases sp
                · rw [if_neg (by simp)] at hr hx
                  repeat' (first
    | simp only [*, go_nil, go_seq, go_cond, go_exit, go_xcode, go_region, go_ops_nil, go_ops, okG_some, gwD_bool, cwD_bool, gw_true, gw_false, guardG, opG, isPtr, inB, sval, stake, eats, eaters, get, cval, cval1, croom, St.taken, put_slot, put_room, dem_none, setBox_slot, setBox_room, ↓reduceIte, Nat.reduceEqDiff, Nat.reduceLT, reduceCtorEq, decide_true, decide_false, List.filterMap_cons, List.filterMap_nil, Option.bind_some, Option.map_some, List.getElem?_cons_zero, List.getElem?_cons_succ, List.contains_cons, List.contains_nil, List.map_cons, List.map_nil, beq_self_eq_true, Bool.or_false, Bool.and_true, Nat.reduceBEq, Bool.false_eq_true, dbin, dIntBin, okR, callG, row9, frz9, frzOf_def, frz_nil, pureB, leaf, leafN, List.all_cons, List.all_nil, List.nil_append, List.append_nil, List.length_nil, List.length_cons, dcells, Nat.zero_add, Bool.and_false, Int.natCast_nonneg, Int.toNat_natCast, and_self, ge_iff_le, dStrBin, dp3, ia44, len44]
    | (refine drW_intro (by kernel_rfl) ?_)
    | (refine gw_intro (fun h => ?_) (fun h => ?_) <;> (try simp only [beq_true, beq_false, Bool.not_eq_eq_eq_not, Bool.not_true, Bool.not_false, Bool.not_not, decide_eq_true_eq, decide_eq_false_iff_not, ge_iff_le, gt_iff_lt] at h)))
                  refine hx _ _ ?_
                  repeat' (first
    | simp only [*, go_seq, go_cond, go_skip, go_retc, go_xblk, go_region, go_ops_nil, go_ops, okG_some, gwD_bool, cwD_bool, gw_true, gw_false, guardG, opG, isPtr, inB, sval, stake, eats, eaters, get, cval, cval1, croom, St.taken, put_slot, put_room, put_box, dem_none, dem_slot, dem_box, dem_room, setBox_slot, setBox_room, endQ, endR, endV, rvars, rvar, room1, ↓reduceIte, Nat.reduceEqDiff, Nat.reduceLT, reduceCtorEq, decide_true, List.filterMap_cons, List.filterMap_nil, Option.bind_some, Option.map_some, List.getElem?_cons_zero, List.getElem?_cons_succ, List.contains_cons, List.contains_nil, List.map_cons, List.map_nil, beq_self_eq_true, Bool.or_false, Bool.or_true, Bool.and_true, Nat.reduceBEq, Bool.false_eq_true, dbin, dIntBin, okR, callG, row9, frz9, frzOf_def, frz_nil, beq_false, Bool.not_true, pureB, leaf, leafN, List.all_cons, List.all_nil, List.nil_append, List.append_nil, List.take_nil, List.range_zero, dun, Bool.and_false, and_self]
    | (refine drW_intro (by kernel_rfl) ?_)
    | (refine gw_intro (fun h => ?_) (fun h => ?_) <;> (try simp only [beq_true, beq_false, Bool.not_eq_eq_eq_not, Bool.not_true, Bool.not_false, Bool.not_not, decide_eq_true_eq, decide_eq_false_iff_not, ge_iff_le, gt_iff_lt] at h)))
                · rw [if_pos rfl] at hr hx
                  repeat' (first
    | simp only [*, go_nil, go_seq, go_cond, go_exit, go_xcode, go_region, go_ops_nil, go_ops, okG_some, gwD_bool, cwD_bool, gw_true, gw_false, guardG, opG, isPtr, inB, sval, stake, eats, eaters, get, cval, cval1, croom, St.taken, put_slot, put_room, dem_none, setBox_slot, setBox_room, ↓reduceIte, Nat.reduceEqDiff, Nat.reduceLT, reduceCtorEq, decide_true, decide_false, List.filterMap_cons, List.filterMap_nil, Option.bind_some, Option.map_some, List.getElem?_cons_zero, List.getElem?_cons_succ, List.contains_cons, List.contains_nil, List.map_cons, List.map_nil, beq_self_eq_true, Bool.or_false, Bool.and_true, Nat.reduceBEq, Bool.false_eq_true, dbin, dIntBin, okR, callG, row9, frz9, frzOf_def, frz_nil, pureB, leaf, leafN, List.all_cons, List.all_nil, List.nil_append, List.append_nil, List.length_nil, List.length_cons, dcells, Nat.zero_add, Bool.and_false, Int.natCast_nonneg, Int.toNat_natCast, and_self, ge_iff_le, dStrBin, dp3, ia44, len44]
    | (refine drW_intro (by kernel_rfl) ?_)
    | (refine gw_intro (fun h => ?_) (fun h => ?_) <;> (try simp only [beq_true, beq_false, Bool.not_eq_eq_eq_not, Bool.not_true, Bool.not_false, Bool.not_not, decide_eq_true_eq, decide_eq_false_iff_not, ge_iff_le, gt_iff_lt] at h)))
                  refine hx _ _ ?_
                  repeat' (first
    | simp only [*, go_seq, go_cond, go_skip, go_retc, go_xblk, go_region, go_ops_nil, go_ops, okG_some, gwD_bool, cwD_bool, gw_true, gw_false, guardG, opG, isPtr, inB, sval, stake, eats, eaters, get, cval, cval1, croom, St.taken, put_slot, put_room, put_box, dem_none, dem_slot, dem_box, dem_room, setBox_slot, setBox_room, endQ, endR, endV, rvars, rvar, room1, ↓reduceIte, Nat.reduceEqDiff, Nat.reduceLT, reduceCtorEq, decide_true, List.filterMap_cons, List.filterMap_nil, Option.bind_some, Option.map_some, List.getElem?_cons_zero, List.getElem?_cons_succ, List.contains_cons, List.contains_nil, List.map_cons, List.map_nil, beq_self_eq_true, Bool.or_false, Bool.or_true, Bool.and_true, Nat.reduceBEq, Bool.false_eq_true, dbin, dIntBin, okR, callG, row9, frz9, frzOf_def, frz_nil, beq_false, Bool.not_true, pureB, leaf, leafN, List.all_cons, List.all_nil, List.nil_append, List.append_nil, List.take_nil, List.range_zero, dun, Bool.and_false, and_self]
    | (refine drW_intro (by kernel_rfl) ?_)
    | (refine gw_intro (fun h => ?_) (fun h => ?_) <;> (try simp only [beq_true, beq_false, Bool.not_eq_eq_eq_not, Bool.not_true, Bool.not_false, Bool.not_not, decide_eq_true_eq, decide_eq_false_iff_not, ge_iff_le, gt_iff_lt] at h)))
              · have hzb : (n == 0) = false := by simp [hz]
                cases rn
                · rw [if_pos (.inr rfl)] at hr hx
                  clear hz
                  cases sp
                  · rw [if_neg (by simp)] at hr hx
                    repeat' (first
    | simp only [*, go_nil, go_seq, go_cond, go_exit, go_xcode, go_region, go_ops_nil, go_ops, okG_some, gwD_bool, cwD_bool, gw_true, gw_false, guardG, opG, isPtr, inB, sval, stake, eats, eaters, get, cval, cval1, croom, St.taken, put_slot, put_room, dem_none, setBox_slot, setBox_room, ↓reduceIte, Nat.reduceEqDiff, Nat.reduceLT, reduceCtorEq, decide_true, decide_false, List.filterMap_cons, List.filterMap_nil, Option.bind_some, Option.map_some, List.getElem?_cons_zero, List.getElem?_cons_succ, List.contains_cons, List.contains_nil, List.map_cons, List.map_nil, beq_self_eq_true, Bool.or_false, Bool.and_true, Nat.reduceBEq, Bool.false_eq_true, dbin, dIntBin, okR, callG, row9, frz9, frzOf_def, frz_nil, pureB, leaf, leafN, List.all_cons, List.all_nil, List.nil_append, List.append_nil, List.length_nil, List.length_cons, dcells, Nat.zero_add, Bool.and_false, Int.natCast_nonneg, Int.toNat_natCast, and_self, ge_iff_le, dStrBin, dp3, ia44, len44]
    | (refine drW_intro (by kernel_rfl) ?_)
    | (refine gw_intro (fun h => ?_) (fun h => ?_) <;> (try simp only [beq_true, beq_false, Bool.not_eq_eq_eq_not, Bool.not_true, Bool.not_false, Bool.not_not, decide_eq_true_eq, decide_eq_false_iff_not, ge_iff_le, gt_iff_lt] at h)))
                    refine hx _ _ ?_
                    repeat' (first
    | simp only [*, go_seq, go_cond, go_skip, go_retc, go_xblk, go_region, go_ops_nil, go_ops, okG_some, gwD_bool, cwD_bool, gw_true, gw_false, guardG, opG, isPtr, inB, sval, stake, eats, eaters, get, cval, cval1, croom, St.taken, put_slot, put_room, put_box, dem_none, dem_slot, dem_box, dem_room, setBox_slot, setBox_room, endQ, endR, endV, rvars, rvar, room1, ↓reduceIte, Nat.reduceEqDiff, Nat.reduceLT, reduceCtorEq, decide_true, List.filterMap_cons, List.filterMap_nil, Option.bind_some, Option.map_some, List.getElem?_cons_zero, List.getElem?_cons_succ, List.contains_cons, List.contains_nil, List.map_cons, List.map_nil, beq_self_eq_true, Bool.or_false, Bool.or_true, Bool.and_true, Nat.reduceBEq, Bool.false_eq_true, dbin, dIntBin, okR, callG, row9, frz9, frzOf_def, frz_nil, Bool.not_false, pureB, leaf, leafN, List.all_cons, List.all_nil, List.nil_append, List.append_nil, List.take_nil, List.range_zero, dun, Bool.and_false, and_self]
    | (refine drW_intro (by kernel_rfl) ?_)
    | (refine gw_intro (fun h => ?_) (fun h => ?_) <;> (try simp only [beq_true, beq_false, Bool.not_eq_eq_eq_not, Bool.not_true, Bool.not_false, Bool.not_not, decide_eq_true_eq, decide_eq_false_iff_not, ge_iff_le, gt_iff_lt] at h)))
                  · rw [if_pos rfl] at hr hx
                    repeat' (first
    | simp only [*, go_nil, go_seq, go_cond, go_exit, go_xcode, go_region, go_ops_nil, go_ops, okG_some, gwD_bool, cwD_bool, gw_true, gw_false, guardG, opG, isPtr, inB, sval, stake, eats, eaters, get, cval, cval1, croom, St.taken, put_slot, put_room, dem_none, setBox_slot, setBox_room, ↓reduceIte, Nat.reduceEqDiff, Nat.reduceLT, reduceCtorEq, decide_true, decide_false, List.filterMap_cons, List.filterMap_nil, Option.bind_some, Option.map_some, List.getElem?_cons_zero, List.getElem?_cons_succ, List.contains_cons, List.contains_nil, List.map_cons, List.map_nil, beq_self_eq_true, Bool.or_false, Bool.and_true, Nat.reduceBEq, Bool.false_eq_true, dbin, dIntBin, okR, callG, row9, frz9, frzOf_def, frz_nil, pureB, leaf, leafN, List.all_cons, List.all_nil, List.nil_append, List.append_nil, List.length_nil, List.length_cons, dcells, Nat.zero_add, Bool.and_false, Int.natCast_nonneg, Int.toNat_natCast, and_self, ge_iff_le, dStrBin, dp3, ia44, len44]
    | (refine drW_intro (by kernel_rfl) ?_)
    | (refine gw_intro (fun h => ?_) (fun h => ?_) <;> (try simp only [beq_true, beq_false, Bool.not_eq_eq_eq_not, Bool.not_true, Bool.not_false, Bool.not_not, decide_eq_true_eq, decide_eq_false_iff_not, ge_iff_le, gt_iff_lt] at h)))
                    refine hx _ _ ?_
                    repeat' (first
    | simp only [*, go_seq, go_cond, go_skip, go_retc, go_xblk, go_region, go_ops_nil, go_ops, okG_some, gwD_bool, cwD_bool, gw_true, gw_false, guardG, opG, isPtr, inB, sval, stake, eats, eaters, get, cval, cval1, croom, St.taken, put_slot, put_room, put_box, dem_none, dem_slot, dem_box, dem_room, setBox_slot, setBox_room, endQ, endR, endV, rvars, rvar, room1, ↓reduceIte, Nat.reduceEqDiff, Nat.reduceLT, reduceCtorEq, decide_true, List.filterMap_cons, List.filterMap_nil, Option.bind_some, Option.map_some, List.getElem?_cons_zero, List.getElem?_cons_succ, List.contains_cons, List.contains_nil, List.map_cons, List.map_nil, beq_self_eq_true, Bool.or_false, Bool.or_true, Bool.and_true, Nat.reduceBEq, Bool.false_eq_true, dbin, dIntBin, okR, callG, row9, frz9, frzOf_def, frz_nil, Bool.not_false, pureB, leaf, leafN, List.all_cons, List.all_nil, List.nil_append, List.append_nil, List.take_nil, List.range_zero, dun, Bool.and_false, and_self]
    | (refine drW_intro (by kernel_rfl) ?_)
    | (refine gw_intro (fun h => ?_) (fun h => ?_) <;> (try simp only [beq_true, beq_false, Bool.not_eq_eq_eq_not, Bool.not_true, Bool.not_false, Bool.not_not, decide_eq_true_eq, decide_eq_false_iff_not, ge_iff_le, gt_iff_lt] at h)))
                · rw [if_neg (by simp [hz])] at hr hx
                  clear hz
                  cases sp
                  · rw [if_neg (by simp)] at hr hx
                    repeat' (first
    | simp only [*, go_nil, go_seq, go_cond, go_exit, go_xcode, go_region, go_ops_nil, go_ops, okG_some, gwD_bool, cwD_bool, gw_true, gw_false, guardG, opG, isPtr, inB, sval, stake, eats, eaters, get, cval, cval1, croom, St.taken, put_slot, put_room, dem_none, setBox_slot, setBox_room, ↓reduceIte, Nat.reduceEqDiff, Nat.reduceLT, reduceCtorEq, decide_true, decide_false, List.filterMap_cons, List.filterMap_nil, Option.bind_some, Option.map_some, List.getElem?_cons_zero, List.getElem?_cons_succ, List.contains_cons, List.contains_nil, List.map_cons, List.map_nil, beq_self_eq_true, Bool.or_false, Bool.and_true, Nat.reduceBEq, Bool.false_eq_true, dbin, dIntBin, okR, callG, row9, frz9, frzOf_def, frz_nil, pureB, leaf, leafN, List.all_cons, List.all_nil, List.nil_append, List.append_nil, List.length_nil, List.length_cons, dcells, Nat.zero_add, Bool.and_false, Int.natCast_nonneg, Int.toNat_natCast, and_self, ge_iff_le, dStrBin, dp3, ia44, len44]
    | (refine drW_intro (by kernel_rfl) ?_)
    | (refine gw_intro (fun h => ?_) (fun h => ?_) <;> (try simp only [beq_true, beq_false, Bool.not_eq_eq_eq_not, Bool.not_true, Bool.not_false, Bool.not_not, decide_eq_true_eq, decide_eq_false_iff_not, ge_iff_le, gt_iff_lt] at h)))
                    refine hx _ _ ?_
                    repeat' (first
    | simp only [*, go_seq, go_cond, go_skip, go_retc, go_xblk, go_region, go_ops_nil, go_ops, okG_some, gwD_bool, cwD_bool, gw_true, gw_false, guardG, opG, isPtr, inB, sval, stake, eats, eaters, get, cval, cval1, croom, St.taken, put_slot, put_room, put_box, dem_none, dem_slot, dem_box, dem_room, setBox_slot, setBox_room, endQ, endR, endV, rvars, rvar, room1, ↓reduceIte, Nat.reduceEqDiff, Nat.reduceLT, reduceCtorEq, decide_true, List.filterMap_cons, List.filterMap_nil, Option.bind_some, Option.map_some, List.getElem?_cons_zero, List.getElem?_cons_succ, List.contains_cons, List.contains_nil, List.map_cons, List.map_nil, beq_self_eq_true, Bool.or_false, Bool.or_true, Bool.and_true, Nat.reduceBEq, Bool.false_eq_true, dbin, dIntBin, okR, callG, row9, frz9, frzOf_def, frz_nil, Bool.not_true, pureB, leaf, leafN, List.all_cons, List.all_nil, List.nil_append, List.append_nil, List.take_nil, List.range_zero, dun, Bool.and_false, and_self]
    | (refine drW_intro (by kernel_rfl) ?_)
    | (refine gw_intro (fun h => ?_) (fun h => ?_) <;> (try simp only [beq_true, beq_false, Bool.not_eq_eq_eq_not, Bool.not_true, Bool.not_false, Bool.not_not, decide_eq_true_eq, decide_eq_false_iff_not, ge_iff_le, gt_iff_lt] at h)))
                  · rw [if_pos rfl] at hr hx
                    repeat' (first
    | simp only [*, go_nil, go_seq, go_cond, go_exit, go_xcode, go_region, go_ops_nil, go_ops, okG_some, gwD_bool, cwD_bool, gw_true, gw_false, guardG, opG, isPtr, inB, sval, stake, eats, eaters, get, cval, cval1, croom, St.taken, put_slot, put_room, dem_none, setBox_slot, setBox_room, ↓reduceIte, Nat.reduceEqDiff, Nat.reduceLT, reduceCtorEq, decide_true, decide_false, List.filterMap_cons, List.filterMap_nil, Option.bind_some, Option.map_some, List.getElem?_cons_zero, List.getElem?_cons_succ, List.contains_cons, List.contains_nil, List.map_cons, List.map_nil, beq_self_eq_true, Bool.or_false, Bool.and_true, Nat.reduceBEq, Bool.false_eq_true, dbin, dIntBin, okR, callG, row9, frz9, frzOf_def, frz_nil, pureB, leaf, leafN, List.all_cons, List.all_nil, List.nil_append, List.append_nil, List.length_nil, List.length_cons, dcells, Nat.zero_add, Bool.and_false, Int.natCast_nonneg, Int.toNat_natCast, and_self, ge_iff_le, dStrBin, dp3, ia44, len44]
    | (refine drW_intro (by kernel_rfl) ?_)
    | (refine gw_intro (fun h => ?_) (fun h => ?_) <;> (try simp only [beq_true, beq_false, Bool.not_eq_eq_eq_not, Bool.not_true, Bool.not_false, Bool.not_not, decide_eq_true_eq, decide_eq_false_iff_not, ge_iff_le, gt_iff_lt] at h)))
                    refine hx _ _ ?_
                    repeat' (first
    | simp only [*, go_seq, go_cond, go_skip, go_retc, go_xblk, go_region, go_ops_nil, go_ops, okG_some, gwD_bool, cwD_bool, gw_true, gw_false, guardG, opG, isPtr, inB, sval, stake, eats, eaters, get, cval, cval1, croom, St.taken, put_slot, put_room, put_box, dem_none, dem_slot, dem_box, dem_room, setBox_slot, setBox_room, endQ, endR, endV, rvars, rvar, room1, ↓reduceIte, Nat.reduceEqDiff, Nat.reduceLT, reduceCtorEq, decide_true, List.filterMap_cons, List.filterMap_nil, Option.bind_some, Option.map_some, List.getElem?_cons_zero, List.getElem?_cons_succ, List.contains_cons, List.contains_nil, List.map_cons, List.map_nil, beq_self_eq_true, Bool.or_false, Bool.or_true, Bool.and_true, Nat.reduceBEq, Bool.false_eq_true, dbin, dIntBin, okR, callG, row9, frz9, frzOf_def, frz_nil, Bool.not_true, pureB, leaf, leafN, List.all_cons, List.all_nil, List.nil_append, List.append_nil, List.take_nil, List.range_zero, dun, Bool.and_false, and_self]
    | (refine drW_intro (by kernel_rfl) ?_)
    | (refine gw_intro (fun h => ?_) (fun h => ?_) <;> (try simp only [beq_true, beq_false, Bool.not_eq_eq_eq_not, Bool.not_true, Bool.not_false, Bool.not_not, decide_eq_true_eq, decide_eq_false_iff_not, ge_iff_le, gt_iff_lt] at h)))
            · have g2' : ¬ (i : Int) < ((a + 7 : Nat) : Int) := by omega
              clear hia hd c1 c2 c3 go g1 g2 h hx3 hi1 hi7 hil hrn hsn hx1 hx2
              by_cases hz : n = 0
              · have hzb : (n == 0) = true := by simp [hz]
                rw [if_pos (.inl hz)] at hr hx
                clear hz
                cases sp
                · rw [if_neg (by simp)] at hr hx
                  repeat' (first
    | simp only [*, go_nil, go_seq, go_cond, go_exit, go_xcode, go_region, go_ops_nil, go_ops, okG_some, gwD_bool, cwD_bool, gw_true, gw_false, guardG, opG, isPtr, inB, sval, stake, eats, eaters, get, cval, cval1, croom, St.taken, put_slot, put_room, dem_none, setBox_slot, setBox_room, ↓reduceIte, Nat.reduceEqDiff, Nat.reduceLT, reduceCtorEq, decide_true, decide_false, List.filterMap_cons, List.filterMap_nil, Option.bind_some, Option.map_some, List.getElem?_cons_zero, List.getElem?_cons_succ, List.contains_cons, List.contains_nil, List.map_cons, List.map_nil, beq_self_eq_true, Bool.or_false, Nat.reduceBEq, Bool.false_eq_true, dbin, dIntBin, okR, callG, row9, frz9, frzOf_def, frz_nil, beq_true, List.nil_append, dcells, Bool.and_false, dStrBin, len44]
    | (refine drW_intro (by kernel_rfl) ?_)
    | (refine gw_intro (fun h => ?_) (fun h => ?_) <;> (try simp only [beq_true, beq_false, Bool.not_eq_eq_eq_not, Bool.not_true, Bool.not_false, Bool.not_not, decide_eq_true_eq, decide_eq_false_iff_not, ge_iff_le, gt_iff_lt] at h)))
                  refine hx _ _ ?_
                  repeat' (first
    | simp only [*, go_seq, go_cond, go_skip, go_retc, go_xblk, go_region, go_ops_nil, go_ops, okG_some, gwD_bool, cwD_bool, gw_true, gw_false, guardG, opG, isPtr, inB, sval, stake, eats, eaters, get, cval, cval1, croom, St.taken, put_slot, put_room, put_box, dem_none, dem_slot, dem_box, dem_room, setBox_slot, setBox_room, endQ, endR, endV, rvars, rvar, room1, ↓reduceIte, Nat.reduceEqDiff, Nat.reduceLT, reduceCtorEq, decide_true, List.filterMap_cons, List.filterMap_nil, Option.bind_some, Option.map_some, List.getElem?_cons_zero, List.getElem?_cons_succ, List.contains_cons, List.contains_nil, List.map_cons, List.map_nil, beq_self_eq_true, Bool.or_false, Bool.or_true, Bool.and_true, Nat.reduceBEq, Bool.false_eq_true, dbin, dIntBin, okR, callG, row9, frz9, frzOf_def, frz_nil, beq_false, Bool.not_true, pureB, leaf, leafN, List.all_cons, List.all_nil, List.nil_append, List.append_nil, List.take_nil, List.range_zero, dun, Bool.and_false, and_self]
    | (refine drW_intro (by kernel_rfl) ?_)
    | (refine gw_intro (fun h => ?_) (fun h => ?_) <;> (try simp only [beq_true, beq_false, Bool.not_eq_eq_eq_not, Bool.not_true, Bool.not_false, Bool.not_not, decide_eq_true_eq, decide_eq_false_iff_not, ge_iff_le, gt_iff_lt] at h)))
                · rw [if_pos rfl] at hr hx
                  repeat' (first
    | simp only [*, go_nil, go_seq, go_cond, go_exit, go_xcode, go_region, go_ops_nil, go_ops, okG_some, gwD_bool, cwD_bool, gw_true, gw_false, guardG, opG, isPtr, inB, sval, stake, eats, eaters, get, cval, cval1, croom, St.taken, put_slot, put_room, dem_none, setBox_slot, setBox_room, ↓reduceIte, Nat.reduceEqDiff, Nat.reduceLT, reduceCtorEq, decide_true, decide_false, List.filterMap_cons, List.filterMap_nil, Option.bind_some, Option.map_some, List.getElem?_cons_zero, List.getElem?_cons_succ, List.contains_cons, List.contains_nil, List.map_cons, List.map_nil, beq_self_eq_true, Bool.or_false, Nat.reduceBEq, Bool.false_eq_true, dbin, dIntBin, okR, callG, row9, frz9, frzOf_def, frz_nil, beq_true, List.nil_append, dcells, Bool.and_false, dStrBin, len44]
    | (refine drW_intro (by kernel_rfl) ?_)
    | (refine gw_intro (fun h => ?_) (fun h => ?_) <;> (try simp only [beq_true, beq_false, Bool.not_eq_eq_eq_not, Bool.not_true, Bool.not_false, Bool.not_not, decide_eq_true_eq, decide_eq_false_iff_not, ge_iff_le, gt_iff_lt] at h)))
                  refine hx _ _ ?_
                  repeat' (first
    | simp only [*, go_seq, go_cond, go_skip, go_retc, go_xblk, go_region, go_ops_nil, go_ops, okG_some, gwD_bool, cwD_bool, gw_true, gw_false, guardG, opG, isPtr, inB, sval, stake, eats, eaters, get, cval, cval1, croom, St.taken, put_slot, put_room, put_box, dem_none, dem_slot, dem_box, dem_room, setBox_slot, setBox_room, endQ, endR, endV, rvars, rvar, room1, ↓reduceIte, Nat.reduceEqDiff, Nat.reduceLT, reduceCtorEq, decide_true, List.filterMap_cons, List.filterMap_nil, Option.bind_some, Option.map_some, List.getElem?_cons_zero, List.getElem?_cons_succ, List.contains_cons, List.contains_nil, List.map_cons, List.map_nil, beq_self_eq_true, Bool.or_false, Bool.or_true, Bool.and_true, Nat.reduceBEq, Bool.false_eq_true, dbin, dIntBin, okR, callG, row9, frz9, frzOf_def, frz_nil, beq_false, Bool.not_true, pureB, leaf, leafN, List.all_cons, List.all_nil, List.nil_append, List.append_nil, List.take_nil, List.range_zero, dun, Bool.and_false, and_self]
    | (refine drW_intro (by kernel_rfl) ?_)
    | (refine gw_intro (fun h => ?_) (fun h => ?_) <;> (try simp only [beq_true, beq_false, Bool.not_eq_eq_eq_not, Bool.not_true, Bool.not_false, Bool.not_not, decide_eq_true_eq, decide_eq_false_iff_not, ge_iff_le, gt_iff_lt] at h)))
              · have hzb : (n == 0) = false := by simp [hz]
                cases rn
                · rw [if_pos (.inr rfl)] at hr hx
                  clear hz
                  cases sp
                  · rw [if_neg (by simp)] at hr hx
                    repeat' (first
    | simp only [*, go_nil, go_seq, go_cond, go_exit, go_xcode, go_region, go_ops_nil, go_ops, okG_some, gwD_bool, cwD_bool, gw_true, gw_false, guardG, opG, isPtr, inB, sval, stake, eats, eaters, get, cval, cval1, croom, St.taken, put_slot, put_room, dem_none, setBox_slot, setBox_room, ↓reduceIte, Nat.reduceEqDiff, Nat.reduceLT, reduceCtorEq, decide_true, decide_false, List.filterMap_cons, List.filterMap_nil, Option.bind_some, Option.map_some, List.getElem?_cons_zero, List.getElem?_cons_succ, List.contains_cons, List.contains_nil, List.map_cons, List.map_nil, beq_self_eq_true, Bool.or_false, Nat.reduceBEq, Bool.false_eq_true, dbin, dIntBin, okR, callG, row9, frz9, frzOf_def, frz_nil, beq_true, List.nil_append, dcells, Bool.and_false, dStrBin, len44]
    | (refine drW_intro (by kernel_rfl) ?_)
    | (refine gw_intro (fun h => ?_) (fun h => ?_) <;> (try simp only [beq_true, beq_false, Bool.not_eq_eq_eq_not, Bool.not_true, Bool.not_false, Bool.not_not, decide_eq_true_eq, decide_eq_false_iff_not, ge_iff_le, gt_iff_lt] at h)))
                    refine hx _ _ ?_
                    repeat' (first
    | simp only [*, go_seq, go_cond, go_skip, go_retc, go_xblk, go_region, go_ops_nil, go_ops, okG_some, gwD_bool, cwD_bool, gw_true, gw_false, guardG, opG, isPtr, inB, sval, stake, eats, eaters, get, cval, cval1, croom, St.taken, put_slot, put_room, put_box, dem_none, dem_slot, dem_box, dem_room, setBox_slot, setBox_room, endQ, endR, endV, rvars, rvar, room1, ↓reduceIte, Nat.reduceEqDiff, Nat.reduceLT, reduceCtorEq, decide_true, List.filterMap_cons, List.filterMap_nil, Option.bind_some, Option.map_some, List.getElem?_cons_zero, List.getElem?_cons_succ, List.contains_cons, List.contains_nil, List.map_cons, List.map_nil, beq_self_eq_true, Bool.or_false, Bool.or_true, Bool.and_true, Nat.reduceBEq, Bool.false_eq_true, dbin, dIntBin, okR, callG, row9, frz9, frzOf_def, frz_nil, Bool.not_false, pureB, leaf, leafN, List.all_cons, List.all_nil, List.nil_append, List.append_nil, List.take_nil, List.range_zero, dun, Bool.and_false, and_self]
    | (refine drW_intro (by kernel_rfl) ?_)
    | (refine gw_intro (fun h => ?_) (fun h => ?_) <;> (try simp only [beq_true, beq_false, Bool.not_eq_eq_eq_not, Bool.not_true, Bool.not_false, Bool.not_not, decide_eq_true_eq, decide_eq_false_iff_not, ge_iff_le, gt_iff_lt] at h)))
                  · rw [if_pos rfl] at hr hx
                    repeat' (first
    | simp only [*, go_nil, go_seq, go_cond, go_exit, go_xcode, go_region, go_ops_nil, go_ops, okG_some, gwD_bool, cwD_bool, gw_true, gw_false, guardG, opG, isPtr, inB, sval, stake, eats, eaters, get, cval, cval1, croom, St.taken, put_slot, put_room, dem_none, setBox_slot, setBox_room, ↓reduceIte, Nat.reduceEqDiff, Nat.reduceLT, reduceCtorEq, decide_true, decide_false, List.filterMap_cons, List.filterMap_nil, Option.bind_some, Option.map_some, List.getElem?_cons_zero, List.getElem?_cons_succ, List.contains_cons, List.contains_nil, List.map_cons, List.map_nil, beq_self_eq_true, Bool.or_false, Nat.reduceBEq, Bool.false_eq_true, dbin, dIntBin, okR, callG, row9, frz9, frzOf_def, frz_nil, beq_true, List.nil_append, dcells, Bool.and_false, dStrBin, len44]
    | (refine drW_intro (by kernel_rfl) ?_)
    | (refine gw_intro (fun h => ?_) (fun h => ?_) <;> (try simp only [beq_true, beq_false, Bool.not_eq_eq_eq_not, Bool.not_true, Bool.not_false, Bool.not_not, decide_eq_true_eq, decide_eq_false_iff_not, ge_iff_le, gt_iff_lt] at h)))
                    refine hx _ _ ?_
                    repeat' (first
    | simp only [*, go_seq, go_cond, go_skip, go_retc, go_xblk, go_region, go_ops_nil, go_ops, okG_some, gwD_bool, cwD_bool, gw_true, gw_false, guardG, opG, isPtr, inB, sval, stake, eats, eaters, get, cval, cval1, croom, St.taken, put_slot, put_room, put_box, dem_none, dem_slot, dem_box, dem_room, setBox_slot, setBox_room, endQ, endR, endV, rvars, rvar, room1, ↓reduceIte, Nat.reduceEqDiff, Nat.reduceLT, reduceCtorEq, decide_true, List.filterMap_cons, List.filterMap_nil, Option.bind_some, Option.map_some, List.getElem?_cons_zero, List.getElem?_cons_succ, List.contains_cons, List.contains_nil, List.map_cons, List.map_nil, beq_self_eq_true, Bool.or_false, Bool.or_true, Bool.and_true, Nat.reduceBEq, Bool.false_eq_true, dbin, dIntBin, okR, callG, row9, frz9, frzOf_def, frz_nil, Bool.not_false, pureB, leaf, leafN, List.all_cons, List.all_nil, List.nil_append, List.append_nil, List.take_nil, List.range_zero, dun, Bool.and_false, and_self]
    | (refine drW_intro (by kernel_rfl) ?_)
    | (refine gw_intro (fun h => ?_) (fun h => ?_) <;> (try simp only [beq_true, beq_false, Bool.not_eq_eq_eq_not, Bool.not_true, Bool.not_false, Bool.not_not, decide_eq_true_eq, decide_eq_false_iff_not, ge_iff_le, gt_iff_lt] at h)))
                · rw [if_neg (by simp [hz])] at hr hx
                  clear hz
                  cases sp
                  · rw [if_neg (by simp)] at hr hx
                    repeat' (first
    | simp only [*, go_nil, go_seq, go_cond, go_exit, go_xcode, go_region, go_ops_nil, go_ops, okG_some, gwD_bool, cwD_bool, gw_true, gw_false, guardG, opG, isPtr, inB, sval, stake, eats, eaters, get, cval, cval1, croom, St.taken, put_slot, put_room, dem_none, setBox_slot, setBox_room, ↓reduceIte, Nat.reduceEqDiff, Nat.reduceLT, reduceCtorEq, decide_true, decide_false, List.filterMap_cons, List.filterMap_nil, Option.bind_some, Option.map_some, List.getElem?_cons_zero, List.getElem?_cons_succ, List.contains_cons, List.contains_nil, List.map_cons, List.map_nil, beq_self_eq_true, Bool.or_false, Nat.reduceBEq, Bool.false_eq_true, dbin, dIntBin, okR, callG, row9, frz9, frzOf_def, frz_nil, beq_true, List.nil_append, dcells, Bool.and_false, dStrBin, len44]
    | (refine drW_intro (by kernel_rfl) ?_)
    | (refine gw_intro (fun h => ?_) (fun h => ?_) <;> (try simp only [beq_true, beq_false, Bool.not_eq_eq_eq_not, Bool.not_true, Bool.not_false, Bool.not_not, decide_eq_true_eq, decide_eq_false_iff_not, ge_iff_le, gt_iff_lt] at h)))
                    refine hx _ _ ?_
                    repeat' (first
    | simp only [*, go_seq, go_cond, go_skip, go_retc, go_xblk, go_region, go_ops_nil, go_ops, okG_some, gwD_bool, cwD_bool, gw_true, gw_false, guardG, opG, isPtr, inB, sval, stake, eats, eaters, get, cval, cval1, croom, St.taken, put_slot, put_room, put_box, dem_none, dem_slot, dem_box, dem_room, setBox_slot, setBox_room, endQ, endR, endV, rvars, rvar, room1, ↓reduceIte, Nat.reduceEqDiff, Nat.reduceLT, reduceCtorEq, decide_true, List.filterMap_cons, List.filterMap_nil, Option.bind_some, Option.map_some, List.getElem?_cons_zero, List.getElem?_cons_succ, List.contains_cons, List.contains_nil, List.map_cons, List.map_nil, beq_self_eq_true, Bool.or_false, Bool.or_true, Bool.and_true, Nat.reduceBEq, Bool.false_eq_true, dbin, dIntBin, okR, callG, row9, frz9, frzOf_def, frz_nil, Bool.not_true, pureB, leaf, leafN, List.all_cons, List.all_nil, List.nil_append, List.append_nil, List.take_nil, List.range_zero, dun, Bool.and_false, and_self]
    | (refine drW_intro (by kernel_rfl) ?_)
    | (refine gw_intro (fun h => ?_) (fun h => ?_) <;> (try simp only [beq_true, beq_false, Bool.not_eq_eq_eq_not, Bool.not_true, Bool.not_false, Bool.not_not, decide_eq_true_eq, decide_eq_false_iff_not, ge_iff_le, gt_iff_lt] at h)))
                  · rw [if_pos rfl] at hr hx
                    repeat' (first
    | simp only [*, go_nil, go_seq, go_cond, go_exit, go_xcode, go_region, go_ops_nil, go_ops, okG_some, gwD_bool, cwD_bool, gw_true, gw_false, guardG, opG, isPtr, inB, sval, stake, eats, eaters, get, cval, cval1, croom, St.taken, put_slot, put_room, dem_none, setBox_slot, setBox_room, ↓reduceIte, Nat.reduceEqDiff, Nat.reduceLT, reduceCtorEq, decide_true, decide_false, List.filterMap_cons, List.filterMap_nil, Option.bind_some, Option.map_some, List.getElem?_cons_zero, List.getElem?_cons_succ, List.contains_cons, List.contains_nil, List.map_cons, List.map_nil, beq_self_eq_true, Bool.or_false, Nat.reduceBEq, Bool.false_eq_true, dbin, dIntBin, okR, callG, row9, frz9, frzOf_def, frz_nil, beq_true, List.nil_append, dcells, Bool.and_false, dStrBin, len44]
    | (refine drW_intro (by kernel_rfl) ?_)
    | (refine gw_intro (fun h => ?_) (fun h => ?_) <;> (try simp only [beq_true, beq_false, Bool.not_eq_eq_eq_not, Bool.not_true, Bool.not_false, Bool.not_not, decide_eq_true_eq, decide_eq_false_iff_not, ge_iff_le, gt_iff_lt] at h)))
                    refine hx _ _ ?_
                    repeat' (first
    | simp only [*, go_seq, go_cond, go_skip, go_retc, go_xblk, go_region, go_ops_nil, go_ops, okG_some, gwD_bool, cwD_bool, gw_true, gw_false, guardG, opG, isPtr, inB, sval, stake, eats, eaters, get, cval, cval1, croom, St.taken, put_slot, put_room, put_box, dem_none, dem_slot, dem_box, dem_room, setBox_slot, setBox_room, endQ, endR, endV, rvars, rvar, room1, ↓reduceIte, Nat.reduceEqDiff, Nat.reduceLT, reduceCtorEq, decide_true, List.filterMap_cons, List.filterMap_nil, Option.bind_some, Option.map_some, List.getElem?_cons_zero, List.getElem?_cons_succ, List.contains_cons, List.contains_nil, List.map_cons, List.map_nil, beq_self_eq_true, Bool.or_false, Bool.or_true, Bool.and_true, Nat.reduceBEq, Bool.false_eq_true, dbin, dIntBin, okR, callG, row9, frz9, frzOf_def, frz_nil, Bool.not_true, pureB, leaf, leafN, List.all_cons, List.all_nil, List.nil_append, List.append_nil, List.take_nil, List.range_zero, dun, Bool.and_false, and_self]
    | (refine drW_intro (by kernel_rfl) ?_)
    | (refine gw_intro (fun h => ?_) (fun h => ?_) <;> (try simp only [beq_true, beq_false, Bool.not_eq_eq_eq_not, Bool.not_true, Bool.not_false, Bool.not_not, decide_eq_true_eq, decide_eq_false_iff_not, ge_iff_le, gt_iff_lt] at h)))
          · have hil3 : ¬ (i : Int) < l.length := by omega
            clear hia hd c1 c2 c3 go g1 h hi1 hi7 hil hrn hsn
            by_cases hz : n = 0
            · have hzb : (n == 0) = true := by simp [hz]
              rw [if_pos (.inl hz)] at hr hx
              clear hz
              cases sp
              · rw [if_neg (by simp)] at hr hx
                repeat' (first
    | simp only [*, go_nil, go_seq, go_cond, go_exit, go_xcode, go_region, go_ops_nil, go_ops, okG_some, gwD_bool, cwD_bool, gw_false, guardG, opG, isPtr, inB, sval, stake, eats, eaters, get, cval, cval1, croom, St.taken, put_slot, put_room, dem_none, setBox_slot, setBox_room, ↓reduceIte, Nat.reduceEqDiff, Nat.reduceLT, reduceCtorEq, decide_true, decide_false, List.filterMap_cons, List.filterMap_nil, Option.bind_some, Option.map_some, List.getElem?_cons_zero, List.getElem?_cons_succ, List.contains_cons, List.contains_nil, List.map_cons, List.map_nil, Bool.or_false, Nat.reduceBEq, Bool.false_eq_true, dbin, dIntBin, okR, callG, row9, frz9, frzOf_def, frz_nil, beq_true, List.nil_append, dcells, Bool.and_false, dStrBin, len44]
    | (refine drW_intro (by kernel_rfl) ?_)
    | (refine gw_intro (fun h => ?_) (fun h => ?_) <;> (try simp only [beq_true, beq_false, Bool.not_eq_eq_eq_not, Bool.not_true, Bool.not_false, Bool.not_not, decide_eq_true_eq, decide_eq_false_iff_not, ge_iff_le, gt_iff_lt] at h)))
                refine hx _ _ ?_
                repeat' (first
    | simp only [*, go_seq, go_cond, go_skip, go_retc, go_xblk, go_region, go_ops_nil, go_ops, okG_some, gwD_bool, cwD_bool, gw_true, gw_false, guardG, opG, isPtr, inB, sval, stake, eats, eaters, get, cval, cval1, croom, St.taken, put_slot, put_room, put_box, dem_none, dem_slot, dem_box, dem_room, setBox_slot, setBox_room, endQ, endR, endV, rvars, rvar, room1, ↓reduceIte, Nat.reduceEqDiff, Nat.reduceLT, reduceCtorEq, decide_true, List.filterMap_cons, List.filterMap_nil, Option.bind_some, Option.map_some, List.getElem?_cons_zero, List.getElem?_cons_succ, List.contains_cons, List.contains_nil, List.map_cons, List.map_nil, beq_self_eq_true, Bool.or_false, Bool.or_true, Bool.and_true, Nat.reduceBEq, Bool.false_eq_true, dbin, dIntBin, okR, callG, row9, frz9, frzOf_def, frz_nil, beq_false, Bool.not_true, pureB, leaf, leafN, List.all_cons, List.all_nil, List.nil_append, List.append_nil, List.take_nil, List.range_zero, dun, Bool.and_false, and_self]
    | (refine drW_intro (by kernel_rfl) ?_)
    | (refine gw_intro (fun h => ?_) (fun h => ?_) <;> (try simp only [beq_true, beq_false, Bool.not_eq_eq_eq_not, Bool.not_true, Bool.not_false, Bool.not_not, decide_eq_true_eq, decide_eq_false_iff_not, ge_iff_le, gt_iff_lt] at h)))
              · rw [if_pos rfl] at hr hx
                repeat' (first
    | simp only [*, go_nil, go_seq, go_cond, go_exit, go_xcode, go_region, go_ops_nil, go_ops, okG_some, gwD_bool, cwD_bool, gw_false, guardG, opG, isPtr, inB, sval, stake, eats, eaters, get, cval, cval1, croom, St.taken, put_slot, put_room, dem_none, setBox_slot, setBox_room, ↓reduceIte, Nat.reduceEqDiff, Nat.reduceLT, reduceCtorEq, decide_true, decide_false, List.filterMap_cons, List.filterMap_nil, Option.bind_some, Option.map_some, List.getElem?_cons_zero, List.getElem?_cons_succ, List.contains_cons, List.contains_nil, List.map_cons, List.map_nil, Bool.or_false, Nat.reduceBEq, Bool.false_eq_true, dbin, dIntBin, okR, callG, row9, frz9, frzOf_def, frz_nil, beq_true, List.nil_append, dcells, Bool.and_false, dStrBin, len44]
    | (refine drW_intro (by kernel_rfl) ?_)
    | (refine gw_intro (fun h => ?_) (fun h => ?_) <;> (try simp only [beq_true, beq_false, Bool.not_eq_eq_eq_not, Bool.not_true, Bool.not_false, Bool.not_not, decide_eq_true_eq, decide_eq_false_iff_not, ge_iff_le, gt_iff_lt] at h)))
                refine hx _ _ ?_
                repeat' (first
    | simp only [*, go_seq, go_cond, go_skip, go_retc, go_xblk, go_region, go_ops_nil, go_ops, okG_some, gwD_bool, cwD_bool, gw_true, gw_false, guardG, opG, isPtr, inB, sval, stake, eats, eaters, get, cval, cval1, croom, St.taken, put_slot, put_room, put_box, dem_none, dem_slot, dem_box, dem_room, setBox_slot, setBox_room, endQ, endR, endV, rvars, rvar, room1, ↓reduceIte, Nat.reduceEqDiff, Nat.reduceLT, reduceCtorEq, decide_true, List.filterMap_cons, List.filterMap_nil, Option.bind_some, Option.map_some, List.getElem?_cons_zero, List.getElem?_cons_succ, List.contains_cons, List.contains_nil, List.map_cons, List.map_nil, beq_self_eq_true, Bool.or_false, Bool.or_true, Bool.and_true, Nat.reduceBEq, Bool.false_eq_true, dbin, dIntBin, okR, callG, row9, frz9, frzOf_def, frz_nil, beq_false, Bool.not_true, pureB, leaf, leafN, List.all_cons, List.all_nil, List.nil_append, List.append_nil, List.take_nil, List.range_zero, dun, Bool.and_false, and_self]
    | (refine drW_intro (by kernel_rfl) ?_)
    | (refine gw_intro (fun h => ?_) (fun h => ?_) <;> (try simp only [beq_true, beq_false, Bool.not_eq_eq_eq_not, Bool.not_true, Bool.not_false, Bool.not_not, decide_eq_true_eq, decide_eq_false_iff_not, ge_iff_le, gt_iff_lt] at h)))
            · have hzb : (n == 0) = false := by simp [hz]
              cases rn
              · rw [if_pos (.inr rfl)] at hr hx
                clear hz
                cases sp
                · rw [if_neg (by simp)] at hr hx
                  repeat' (first
    | simp only [*, go_nil, go_seq, go_cond, go_exit, go_xcode, go_region, go_ops_nil, go_ops, okG_some, gwD_bool, cwD_bool, gw_false, guardG, opG, isPtr, inB, sval, stake, eats, eaters, get, cval, cval1, croom, St.taken, put_slot, put_room, dem_none, setBox_slot, setBox_room, ↓reduceIte, Nat.reduceEqDiff, Nat.reduceLT, reduceCtorEq, decide_true, decide_false, List.filterMap_cons, List.filterMap_nil, Option.bind_some, Option.map_some, List.getElem?_cons_zero, List.getElem?_cons_succ, List.contains_cons, List.contains_nil, List.map_cons, List.map_nil, Bool.or_false, Nat.reduceBEq, Bool.false_eq_true, dbin, dIntBin, okR, callG, row9, frz9, frzOf_def, frz_nil, beq_true, List.nil_append, dcells, Bool.and_false, dStrBin, len44]
    | (refine drW_intro (by kernel_rfl) ?_)
    | (refine gw_intro (fun h => ?_) (fun h => ?_) <;> (try simp only [beq_true, beq_false, Bool.not_eq_eq_eq_not, Bool.not_true, Bool.not_false, Bool.not_not, decide_eq_true_eq, decide_eq_false_iff_not, ge_iff_le, gt_iff_lt] at h)))
                  refine hx _ _ ?_
                  repeat' (first
    | simp only [*, go_seq, go_cond, go_skip, go_retc, go_xblk, go_region, go_ops_nil, go_ops, okG_some, gwD_bool, cwD_bool, gw_true, gw_false, guardG, opG, isPtr, inB, sval, stake, eats, eaters, get, cval, cval1, croom, St.taken, put_slot, put_room, put_box, dem_none, dem_slot, dem_box, dem_room, setBox_slot, setBox_room, endQ, endR, endV, rvars, rvar, room1, ↓reduceIte, Nat.reduceEqDiff, Nat.reduceLT, reduceCtorEq, decide_true, List.filterMap_cons, List.filterMap_nil, Option.bind_some, Option.map_some, List.getElem?_cons_zero, List.getElem?_cons_succ, List.contains_cons, List.contains_nil, List.map_cons, List.map_nil, beq_self_eq_true, Bool.or_false, Bool.or_true, Bool.and_true, Nat.reduceBEq, Bool.false_eq_true, dbin, dIntBin, okR, callG, row9, frz9, frzOf_def, frz_nil, Bool.not_false, pureB, leaf, leafN, List.all_cons, List.all_nil, List.nil_append, List.append_nil, List.take_nil, List.range_zero, dun, Bool.and_false, and_self]
    | (refine drW_intro (by kernel_rfl) ?_)
    | (refine gw_intro (fun h => ?_) (fun h => ?_) <;> (try simp only [beq_true, beq_false, Bool.not_eq_eq_eq_not, Bool.not_true, Bool.not_false, Bool.not_not, decide_eq_true_eq, decide_eq_false_iff_not, ge_iff_le, gt_iff_lt] at h)))
                · rw [if_pos rfl] at hr hx
                  repeat' (first
    | simp only [*, go_nil, go_seq, go_cond, go_exit, go_xcode, go_region, go_ops_nil, go_ops, okG_some, gwD_bool, cwD_bool, gw_false, guardG, opG, isPtr, inB, sval, stake, eats, eaters, get, cval, cval1, croom, St.taken, put_slot, put_room, dem_none, setBox_slot, setBox_room, ↓reduceIte, Nat.reduceEqDiff, Nat.reduceLT, reduceCtorEq, decide_true, decide_false, List.filterMap_cons, List.filterMap_nil, Option.bind_some, Option.map_some, List.getElem?_cons_zero, List.getElem?_cons_succ, List.contains_cons, List.contains_nil, List.map_cons, List.map_nil, Bool.or_false, Nat.reduceBEq, Bool.false_eq_true, dbin, dIntBin, okR, callG, row9, frz9, frzOf_def, frz_nil, beq_true, List.nil_append, dcells, Bool.and_false, dStrBin, len44]
    | (refine drW_intro (by kernel_rfl) ?_)
    | (refine gw_intro (fun h => ?_) (fun h => ?_) <;> (try simp only [beq_true, beq_false, Bool.not_eq_eq_eq_not, Bool.not_true, Bool.not_false, Bool.not_not, decide_eq_true_eq, decide_eq_false_iff_not, ge_iff_le, gt_iff_lt] at h)))
                  refine hx _ _ ?_
                  repeat' (first
    | simp only [*, go_seq, go_cond, go_skip, go_retc, go_xblk, go_region, go_ops_nil, go_ops, okG_some, gwD_bool, cwD_bool, gw_true, gw_false, guardG, opG, isPtr, inB, sval, stake, eats, eaters, get, cval, cval1, croom, St.taken, put_slot, put_room, put_box, dem_none, dem_slot, dem_box, dem_room, setBox_slot, setBox_room, endQ, endR, endV, rvars, rvar, room1, ↓reduceIte, Nat.reduceEqDiff, Nat.reduceLT, reduceCtorEq, decide_true, List.filterMap_cons, List.filterMap_nil, Option.bind_some, Option.map_some, List.getElem?_cons_zero, List.getElem?_cons_succ, List.contains_cons, List.contains_nil, List.map_cons, List.map_nil, beq_self_eq_true, Bool.or_false, Bool.or_true, Bool.and_true, Nat.reduceBEq, Bool.false_eq_true, dbin, dIntBin, okR, callG, row9, frz9, frzOf_def, frz_nil, Bool.not_false, pureB, leaf, leafN, List.all_cons, List.all_nil, List.nil_append, List.append_nil, List.take_nil, List.range_zero, dun, Bool.and_false, and_self]
    | (refine drW_intro (by kernel_rfl) ?_)
    | (refine gw_intro (fun h => ?_) (fun h => ?_) <;> (try simp only [beq_true, beq_false, Bool.not_eq_eq_eq_not, Bool.not_true, Bool.not_false, Bool.not_not, decide_eq_true_eq, decide_eq_false_iff_not, ge_iff_le, gt_iff_lt] at h)))
              · rw [if_neg (by simp [hz])] at hr hx
                clear hz
                cases sp
                · rw [if_neg (by simp)] at hr hx
                  repeat' (first
    | simp only [*, go_nil, go_seq, go_cond, go_exit, go_xcode, go_region, go_ops_nil, go_ops, okG_some, gwD_bool, cwD_bool, gw_false, guardG, opG, isPtr, inB, sval, stake, eats, eaters, get, cval, cval1, croom, St.taken, put_slot, put_room, dem_none, setBox_slot, setBox_room, ↓reduceIte, Nat.reduceEqDiff, Nat.reduceLT, reduceCtorEq, decide_true, decide_false, List.filterMap_cons, List.filterMap_nil, Option.bind_some, Option.map_some, List.getElem?_cons_zero, List.getElem?_cons_succ, List.contains_cons, List.contains_nil, List.map_cons, List.map_nil, Bool.or_false, Nat.reduceBEq, Bool.false_eq_true, dbin, dIntBin, okR, callG, row9, frz9, frzOf_def, frz_nil, beq_true, List.nil_append, dcells, Bool.and_false, dStrBin, len44]
    | (refine drW_intro (by kernel_rfl) ?_)
    | (refine gw_intro (fun h => ?_) (fun h => ?_) <;> (try simp only [beq_true, beq_false, Bool.not_eq_eq_eq_not, Bool.not_true, Bool.not_false, Bool.not_not, decide_eq_true_eq, decide_eq_false_iff_not, ge_iff_le, gt_iff_lt] at h)))
                  refine hx _ _ ?_
                  repeat' (first
    | simp only [*, go_seq, go_cond, go_skip, go_retc, go_xblk, go_region, go_ops_nil, go_ops, okG_some, gwD_bool, cwD_bool, gw_true, gw_false, guardG, opG, isPtr, inB, sval, stake, eats, eaters, get, cval, cval1, croom, St.taken, put_slot, put_room, put_box, dem_none, dem_slot, dem_box, dem_room, setBox_slot, setBox_room, endQ, endR, endV, rvars, rvar, room1, ↓reduceIte, Nat.reduceEqDiff, Nat.reduceLT, reduceCtorEq, decide_true, List.filterMap_cons, List.filterMap_nil, Option.bind_some, Option.map_some, List.getElem?_cons_zero, List.getElem?_cons_succ, List.contains_cons, List.contains_nil, List.map_cons, List.map_nil, beq_self_eq_true, Bool.or_false, Bool.or_true, Bool.and_true, Nat.reduceBEq, Bool.false_eq_true, dbin, dIntBin, okR, callG, row9, frz9, frzOf_def, frz_nil, Bool.not_true, pureB, leaf, leafN, List.all_cons, List.all_nil, List.nil_append, List.append_nil, List.take_nil, List.range_zero, dun, Bool.and_false, and_self]
    | (refine drW_intro (by kernel_rfl) ?_)
    | (refine gw_intro (fun h => ?_) (fun h => ?_) <;> (try simp only [beq_true, beq_false, Bool.not_eq_eq_eq_not, Bool.not_true, Bool.not_false, Bool.not_not, decide_eq_true_eq, decide_eq_false_iff_not, ge_iff_le, gt_iff_lt] at h)))
                · rw [if_pos rfl] at hr hx
                  repeat' (first
    | simp only [*, go_nil, go_seq, go_cond, go_exit, go_xcode, go_region, go_ops_nil, go_ops, okG_some, gwD_bool, cwD_bool, gw_false, guardG, opG, isPtr, inB, sval, stake, eats, eaters, get, cval, cval1, croom, St.taken, put_slot, put_room, dem_none, setBox_slot, setBox_room, ↓reduceIte, Nat.reduceEqDiff, Nat.reduceLT, reduceCtorEq, decide_true, decide_false, List.filterMap_cons, List.filterMap_nil, Option.bind_some, Option.map_some, List.getElem?_cons_zero, List.getElem?_cons_succ, List.contains_cons, List.contains_nil, List.map_cons, List.map_nil, Bool.or_false, Nat.reduceBEq, Bool.false_eq_true, dbin, dIntBin, okR, callG, row9, frz9, frzOf_def, frz_nil, beq_true, List.nil_append, dcells, Bool.and_false, dStrBin, len44]
    | (refine drW_intro (by kernel_rfl) ?_)
    | (refine gw_intro (fun h => ?_) (fun h => ?_) <;> (try simp only [beq_true, beq_false, Bool.not_eq_eq_eq_not, Bool.not_true, Bool.not_false, Bool.not_not, decide_eq_true_eq, decide_eq_false_iff_not, ge_iff_le, gt_iff_lt] at h)))
                  refine hx _ _ ?_
                  repeat' (first
    | simp only [*, go_seq, go_cond, go_skip, go_retc, go_xblk, go_region, go_ops_nil, go_ops, okG_some, gwD_bool, cwD_bool, gw_true, gw_false, guardG, opG, isPtr, inB, sval, stake, eats, eaters, get, cval, cval1, croom, St.taken, put_slot, put_room, put_box, dem_none, dem_slot, dem_box, dem_room, setBox_slot, setBox_room, endQ, endR, endV, rvars, rvar, room1, ↓reduceIte, Nat.reduceEqDiff, Nat.reduceLT, reduceCtorEq, decide_true, List.filterMap_cons, List.filterMap_nil, Option.bind_some, Option.map_some, List.getElem?_cons_zero, List.getElem?_cons_succ, List.contains_cons, List.contains_nil, List.map_cons, List.map_nil, beq_self_eq_true, Bool.or_false, Bool.or_true, Bool.and_true, Nat.reduceBEq, Bool.false_eq_true, dbin, dIntBin, okR, callG, row9, frz9, frzOf_def, frz_nil, Bool.not_true, pureB, leaf, leafN, List.all_cons, List.all_nil, List.nil_append, List.append_nil, List.take_nil, List.range_zero, dun, Bool.and_false, and_self]
    | (refine drW_intro (by kernel_rfl) ?_)
    | (refine gw_intro (fun h => ?_) (fun h => ?_) <;> (try simp only [beq_true, beq_false, Bool.not_eq_eq_eq_not, Bool.not_true, Bool.not_false, Bool.not_not, decide_eq_true_eq, decide_eq_false_iff_not, ge_iff_le, gt_iff_lt] at h)))
end Go.Av
/- Chapter 19: the document's tokenizer: told characters, texts, names, comments. -/
set_option linter.unusedSimpArgs false
set_option linter.unusedVariables false
set_option linter.unusedSectionVars false
set_option maxRecDepth 100000
namespace Go.Av
open Go.Proofs Go.Proofs.Ytaldmffahmomoaa
def nb (l : List Int) : List UInt8 := l.map fun n => UInt8.ofNat n.toNat
theorem nb_length (l : List Int) : (nb l).length = l.length := by simp [nb]
theorem rPut1 {n : Int} (h : n < 128) : rPut n = [n] := by unfold rPut; rw [if_pos h]
theorem rPut2 {n : Int} (h : 128 ≤ n) (h' : n < 2048) : rPut n = [192 + n / 64, 128 + n % 64] := by unfold rPut; rw [if_neg (by omega), if_pos (by omega)]
theorem rPut3 {n : Int} (h : 2048 ≤ n) (h' : n < 65536) : rPut n = [224 + n / 4096, 128 + n / 64 % 64, 128 + n % 64] := by unfold rPut; rw [if_neg (by omega), if_neg (by omega), if_pos (by omega)]
theorem rPut4 {n : Int} (h : 65536 ≤ n) : rPut n = [240 + n / 262144, 128 + n / 4096 % 64, 128 + n / 64 % 64, 128 + n % 64] := by unfold rPut; rw [if_neg (by omega), if_neg (by omega), if_neg (by omega)]
theorem td (a : Int) (b : Int) (h : 0 ≤ a) : Int.tdiv a b = a / b := Int.tdiv_eq_ediv_of_nonneg h
theorem tm (a : Int) (b : Int) (h : 0 ≤ a) : Int.tmod a b = a % b := Int.tmod_eq_emod_of_nonneg h
theorem wu8 (a : Int) (h : 0 ≤ a) (h2 : a < 256) : IntKind.u8.wrap a = a := by rw [IntKind.wrap_u8]; omega
theorem w6 (a : Int) (h : 0 ≤ a) (h2 : a ≤ 1114111) : IntKind.i64.wrap a = a := wrap64 _ (by omega) (by omega)
set_option maxHeartbeats 4000000 in
theorem rPut_L (c : Int) (h : rightC c = true) : ∃ r, callL Try.prog ext9 73 [.int .i64 c] [] = some (.list ((rPut c).map (D.int .u8)), [r], []) := by
  have hr := rightC_true.1 h
  clear h
  obtain ⟨hr0, hr1, -⟩ := hr
  refine ⟨.full, ?_⟩
  refine callK (m := 54) (res := [2]) (rs := [.tmp 2]) rfl Try.func73 rfl rfl rfl rfl rfl ?_
  have h64 : ¬ ((64 : Int) = 0) := by decide
  have h4096 : ¬ ((4096 : Int) = 0) := by decide
  have h262144 : ¬ ((262144 : Int) = 0) := by decide
  rcases (by omega : c < 128 ∨ (128 ≤ c ∧ c < 2048) ∨ (2048 ≤ c ∧ c < 65536) ∨ 65536 ≤ c) with h1 | ⟨h1, h2⟩ | ⟨h1, h2⟩ | h1
  · have e := rPut1 h1
    have a1 := wu8 c (by omega) (by omega)
    repeat' (first
    | simp only [*, go_seq, go_cond, go_retc, go_region, go_ops_nil, go_ops, okG_some, cwD_bool, gw_true, guardG, opG, inB, sval, stake, eats, eaters, get, cval, cval1, croom, St.taken, put_slot, put_room, put_box, dem_none, dem_box, entry_slot, entry_box, endQ, endR, endV, rvars, rvar, room1, ↓reduceIte, Nat.reduceLT, reduceCtorEq, decide_true, List.filterMap_cons, List.filterMap_nil, Option.map_some, List.getD_cons_zero, List.contains_cons, List.contains_nil, List.map_cons, List.map_nil, beq_self_eq_true, Bool.or_false, Nat.reduceBEq, Bool.false_eq_true, dbin, dIntBin, row9, frz9, frzOf_def, frz_nil, pureB, leaf, leafN, List.take_nil, List.range_zero, List.length_nil, List.getElem?_nil, List.take_succ_cons, Bool.and_false, Bool.false_and, and_self, bs22, cv35]
    | (refine drW_intro (by kernel_rfl) ?_)
    | (refine gw_intro (fun h => ?_) (fun h => ?_) <;> (try simp only [beq_true, beq_false, Bool.not_eq_eq_eq_not, Bool.not_true, Bool.not_false, Bool.not_not, decide_eq_true_eq, decide_eq_false_iff_not, ge_iff_le, gt_iff_lt] at h)))
  · have e := rPut2 h1 h2
    have n1 : ¬ c < 128 := by omega
    have a1 := td c 64 hr0
    have a2 := tm c 64 hr0
    have b1 := w6 (c / 64) (by omega) (by omega)
    have b2 := w6 (192 + c / 64) (by omega) (by omega)
    have b3 := w6 (128 + c % 64) (by omega) (by omega)
    have c1 := wu8 (192 + c / 64) (by omega) (by omega)
    have c2 := wu8 (128 + c % 64) (by omega) (by omega)
    repeat' (first
    | simp only [*, go_seq, go_cond, go_skip, go_retc, go_region, go_ops_nil, go_ops, okG_some, cwD_bool, gw_true, gw_false, guardG, opG, inB, sval, stake, eats, eaters, get, cval, cval1, croom, St.taken, put_slot, put_room, put_box, dem_none, dem_box, entry_slot, entry_box, endQ, endR, endV, rvars, rvar, room1, ↓reduceIte, Nat.reduceEqDiff, Nat.reduceLT, reduceCtorEq, decide_true, decide_false, List.filterMap_cons, List.filterMap_nil, Option.map_some, List.getD_cons_zero, List.contains_cons, List.contains_nil, List.map_cons, List.map_nil, beq_self_eq_true, Bool.or_false, Nat.reduceBEq, Bool.false_eq_true, dbin, dIntBin, row9, frz9, frzOf_def, frz_nil, pureB, leaf, leafN, List.take_nil, List.range_zero, List.length_nil, List.getElem?_nil, List.take_succ_cons, Bool.and_false, Bool.false_and, and_self, bs22_2, cv35]
    | (refine drW_intro (by kernel_rfl) ?_)
    | (refine gw_intro (fun h => ?_) (fun h => ?_) <;> (try simp only [beq_true, beq_false, Bool.not_eq_eq_eq_not, Bool.not_true, Bool.not_false, Bool.not_not, decide_eq_true_eq, decide_eq_false_iff_not, ge_iff_le, gt_iff_lt] at h)))
  · have e := rPut3 h1 h2
    have n1 : ¬ c < 128 := by omega
    have n2 : ¬ c < 2048 := by omega
    have a1 := td c 64 hr0
    have a2 := tm c 64 hr0
    have a3 := td c 4096 hr0
    have a4 := tm (c / 64) 64 (by omega)
    have b1 := w6 (c / 64) (by omega) (by omega)
    have b4 := w6 (c / 4096) (by omega) (by omega)
    have b2 := w6 (224 + c / 4096) (by omega) (by omega)
    have b3 := w6 (128 + c % 64) (by omega) (by omega)
    have b5 := w6 (128 + c / 64 % 64) (by omega) (by omega)
    have c1 := wu8 (224 + c / 4096) (by omega) (by omega)
    have c2 := wu8 (128 + c % 64) (by omega) (by omega)
    have c3 := wu8 (128 + c / 64 % 64) (by omega) (by omega)
    repeat' (first
    | simp only [*, go_seq, go_cond, go_skip, go_retc, go_region, go_ops_nil, go_ops, okG_some, cwD_bool, gw_true, gw_false, guardG, opG, inB, sval, stake, eats, eaters, get, cval, cval1, croom, St.taken, put_slot, put_room, put_box, dem_none, dem_box, entry_slot, entry_box, endQ, endR, endV, rvars, rvar, room1, ↓reduceIte, Nat.reduceEqDiff, Nat.reduceLT, reduceCtorEq, decide_true, decide_false, List.filterMap_cons, List.filterMap_nil, Option.map_some, List.getD_cons_zero, List.contains_cons, List.contains_nil, List.map_cons, List.map_nil, beq_self_eq_true, Bool.or_false, Nat.reduceBEq, Bool.false_eq_true, dbin, dIntBin, row9, frz9, frzOf_def, frz_nil, pureB, leaf, leafN, List.take_nil, List.range_zero, List.length_nil, List.getElem?_nil, List.take_succ_cons, Bool.and_false, Bool.false_and, and_self, bs22_3, cv35]
    | (refine drW_intro (by kernel_rfl) ?_)
    | (refine gw_intro (fun h => ?_) (fun h => ?_) <;> (try simp only [beq_true, beq_false, Bool.not_eq_eq_eq_not, Bool.not_true, Bool.not_false, Bool.not_not, decide_eq_true_eq, decide_eq_false_iff_not, ge_iff_le, gt_iff_lt] at h)))
  · have e := rPut4 h1
    have n1 : ¬ c < 128 := by omega
    have n2 : ¬ c < 2048 := by omega
    have n3 : ¬ c < 65536 := by omega
    have a1 := td c 64 hr0
    have a2 := tm c 64 hr0
    have a3 := td c 4096 hr0
    have a4 := tm (c / 64) 64 (by omega)
    have a5 := tm (c / 4096) 64 (by omega)
    have a6 := td c 262144 hr0
    have b1 := w6 (c / 64) (by omega) (by omega)
    have b4 := w6 (c / 4096) (by omega) (by omega)
    have b6 := w6 (c / 262144) (by omega) (by omega)
    have b2 := w6 (240 + c / 262144) (by omega) (by omega)
    have b3 := w6 (128 + c % 64) (by omega) (by omega)
    have b5 := w6 (128 + c / 64 % 64) (by omega) (by omega)
    have b7 := w6 (128 + c / 4096 % 64) (by omega) (by omega)
    have c1 := wu8 (240 + c / 262144) (by omega) (by omega)
    have c2 := wu8 (128 + c % 64) (by omega) (by omega)
    have c3 := wu8 (128 + c / 64 % 64) (by omega) (by omega)
    have c4 := wu8 (128 + c / 4096 % 64) (by omega) (by omega)
    repeat' (first
    | simp only [*, go_seq, go_cond, go_skip, go_retc, go_region, go_ops_nil, go_ops, okG_some, cwD_bool, gw_false, guardG, opG, inB, sval, stake, eats, eaters, get, cval, cval1, croom, St.taken, put_slot, put_room, put_box, dem_none, dem_box, entry_slot, entry_box, endQ, endR, endV, rvars, rvar, room1, ↓reduceIte, Nat.reduceEqDiff, Nat.reduceLT, reduceCtorEq, decide_true, decide_false, List.filterMap_cons, List.filterMap_nil, Option.map_some, List.getD_cons_zero, List.contains_cons, List.contains_nil, List.map_cons, List.map_nil, beq_self_eq_true, Bool.or_false, Nat.reduceBEq, Bool.false_eq_true, dbin, dIntBin, row9, frz9, frzOf_def, frz_nil, pureB, leaf, leafN, List.take_nil, List.range_zero, List.length_nil, List.getElem?_nil, List.take_succ_cons, Bool.and_false, Bool.false_and, and_self, bs22_4, cv35]
    | (refine drW_intro (by kernel_rfl) ?_)
    | (refine gw_intro (fun h => ?_) (fun h => ?_) <;> (try simp only [beq_true, beq_false, Bool.not_eq_eq_eq_not, Bool.not_true, Bool.not_false, Bool.not_not, decide_eq_true_eq, decide_eq_false_iff_not, ge_iff_le, gt_iff_lt] at h)))
theorem bytesOf_ints : ∀ (l : List Int), bytesOf (l.map (D.int .u8)) = some (nb l)
  | [] => rfl
  | z :: l => by
    show (bytesOf (l.map (D.int .u8))).map (UInt8.ofNat z.toNat :: ·) = _
    rw [bytesOf_ints l]
    rfl

/-- A list's right to be appended to. -/
def rm1 (e : TypeId) (l : List Int) : Room := if l = [] then .full else .own e
set_option maxHeartbeats 4000000 in
theorem rtext_L {l : List Int} (h : CL l) : ∃ r, callL Try.prog ext9 72 [LI l] [] = some (.list ((textOf l).map (D.int .u8)), [r], []) := by
  have lN := LIlen l
  have hp0 := rPut_L 65533 (by decide)
  obtain ⟨r0, hp0⟩ := hp0
  have hl := h.len
  refine ⟨rm1 5 (textOf l), ?_⟩
  refine callK (m := 28) (res := [2]) (rs := [.tmp 2]) rfl Try.func72 rfl rfl rfl rfl rfl ?_
  repeat' (first
    | simp only [*, go_seq, go_block, go_loop, go_region, go_ops_nil, go_ops, okG_some, guardG, opG, inB, sval, stake, eats, eaters, get, cval, cval1, croom, St.taken, put_slot, put_room, dem_none, entry_slot, ↓reduceIte, Nat.reduceLT, decide_true, List.filterMap_cons, List.filterMap_nil, Option.map_some, List.contains_cons, List.contains_nil, List.map_nil, Bool.or_false, Nat.reduceBEq, Bool.false_eq_true, row9, frz9, frzOf_def, frz_nil, List.length_nil, bs22e]
    | (refine drW_intro (by kernel_rfl) ?_)
    | (refine gw_intro (fun h => ?_) (fun h => ?_) <;> (try simp only [beq_true, beq_false, Bool.not_eq_eq_eq_not, Bool.not_true, Bool.not_false, Bool.not_not, decide_eq_true_eq, decide_eq_false_iff_not, ge_iff_le, gt_iff_lt] at h)))
  refine loopH (fun st => ∃ i : Nat, i ≤ l.length ∧ st.slot 4 = .int .i64 i ∧ st.slot 0 = LI l ∧ st.slot 3 = .list ((textOf (l.take i)).map (D.int .u8)) ∧ st.room 3 = [rm1 5 (textOf (l.take i))]) (fun st => l.length - slotI st 4) ?_ ?_
  · refine ⟨0, Nat.zero_le _, ?_, ?_, ?_, ?_⟩
    all_goals simp only [*, put_slot, put_room, dem_slot, entry_slot, ↓reduceIte, Nat.reduceEqDiff, reduceCtorEq, List.getD_cons_zero, List.take_zero, and_true, List.cons.injEq]
    all_goals rfl
  · rintro st K ⟨i, hi, h4, h0, h3, hrm⟩ hn hx hr
    by_cases hlt : i < l.length
    · have hlt1 : (i : Int) < l.length := by omega
      have hw := w1 i (by omega)
      obtain ⟨d1, d2, d3⟩ := h.at hlt
      have hts := textOf_snoc (xs := l) hlt
      have hR := right_L (l.getD i 0)
      have htl := textOf_length (l.take i)
      rw [List.length_take, Nat.min_eq_left (by omega)] at htl
      have hfx := fixC_right (l.getD i 0)
      have hpl := rPut_length (fixC (l.getD i 0))
      have hsz := szU8 (textOf (l.take i))
      obtain ⟨y, hy⟩ : ∃ y, fixC (l.getD i 0) = y := ⟨_, rfl⟩
      rw [hy] at hts hfx hpl
      have hnr : rm1 5 (textOf (l.take i) ++ rPut y) = .own 5 := by
        unfold rm1
        rw [if_neg]
        intro e
        have := congrArg List.length e
        simp only [List.length_append, List.length_nil] at this
        omega
      have hroom : [rm1 5 (textOf (l.take i))] = [.full] ∨ [rm1 5 (textOf (l.take i))] = [.own 5] := by
        unfold rm1
        split
        · exact .inl rfl
        · exact .inr rfl
      have hfit : ((textOf (l.take i)).map (D.int .u8)).length + ((rPut y).map (D.int .u8)).length ≤ 1073741824 := by simp; omega
      have hsz2 := szU8 (rPut y)
      have hap : (textOf (l.take i)).map (D.int .u8) ++ (rPut y).map (D.int .u8) = (textOf (l.take i) ++ rPut y).map (D.int .u8) := by simp
      have hcase : (rightC (l.getD i 0) = true ∧ l.getD i 0 = y) ∨ (rightC (l.getD i 0) = false ∧ y = 65533) := by
        cases hrc : rightC (l.getD i 0) with
        | true => exact .inl ⟨rfl, by rw [← hy, fixC_yes hrc]⟩
        | false => exact .inr ⟨rfl, by rw [← hy, fixC_no hrc]⟩
      clear htl hy
      rcases hroom with hroom | hroom
      all_goals
        rw [hroom] at hrm
        clear hroom
        rcases hcase with ⟨hrc, hy⟩ | ⟨hrc, hy⟩
        · obtain ⟨r1, hp1⟩ := rPut_L y hfx
          rw [hrc] at hR
          rw [hy] at hR d3 hrc
          clear h hpl hfx hy hp0 hrc
          repeat' (first
    | simp only [*, go_nil, go_seq, go_cond, go_block, go_blk, go_skip, go_region, go_ops_nil, go_ops, okG_some, cwD_bool, gw_true, guardG, opG, isPtr, inB, sval, stake, eats, eaters, get, cval, cval1, St.taken, put_slot, put_room, dem_none, dem_slot, ↓reduceIte, Nat.reduceEqDiff, Nat.reduceLT, reduceCtorEq, decide_true, List.filterMap_cons, List.filterMap_nil, Option.map_some, List.getElem?_cons_zero, List.contains_cons, List.contains_nil, List.map_cons, List.map_nil, beq_self_eq_true, Bool.or_false, Bool.and_true, Nat.reduceBEq, Bool.false_eq_true, dbin, dIntBin, okR, callG, row9, frz9, frzOf_def, frz_nil, pureB, leaf, leafN, List.all_cons, List.all_nil, List.nil_append, List.append_nil, List.length_nil, List.length_cons, dcells, Nat.zero_add, Bool.and_false, and_true, Int.natCast_nonneg, Int.toNat_natCast, and_self, or_true, or_false, List.cons.injEq, List.getElem?_toArray, dp3, ap22, ia44, len44]
    | (refine drW_intro (by kernel_rfl) ?_)
    | (refine gw_intro (fun h => ?_) (fun h => ?_) <;> (try simp only [beq_true, beq_false, Bool.not_eq_eq_eq_not, Bool.not_true, Bool.not_false, Bool.not_not, decide_eq_true_eq, decide_eq_false_iff_not, ge_iff_le, gt_iff_lt] at h)))
          refine hn _ ⟨i + 1, hlt, ?_, ?_, ?_, ?_⟩ ?_
          · simp only [*, put_slot, ↓reduceIte]
          · simp only [*, put_slot, dem_slot, ↓reduceIte, reduceCtorEq]
          · simp only [*, put_slot, dem_slot, ↓reduceIte, Nat.reduceEqDiff]
          · simp only [*, put_room, dem_room, ↓reduceIte, Nat.reduceEqDiff]
          · simp only [slotI, *, put_slot, ↓reduceIte, Int.toNat_natCast]
            omega
        · subst hy
          rw [hrc] at hR
          generalize l.getD i 0 = x at *
          clear h hpl hfx hrc
          repeat' (first
    | simp only [*, go_nil, go_seq, go_cond, go_block, go_blk, go_skip, go_region, go_ops_nil, go_ops, okG_some, cwD_bool, gw_true, gw_false, guardG, opG, isPtr, inB, sval, stake, eats, eaters, get, cval, cval1, St.taken, put_slot, put_room, dem_none, dem_slot, ↓reduceIte, Nat.reduceEqDiff, Nat.reduceLT, reduceCtorEq, decide_true, List.filterMap_cons, List.filterMap_nil, Option.map_some, List.getElem?_cons_zero, List.contains_cons, List.contains_nil, List.map_cons, List.map_nil, beq_self_eq_true, Bool.or_false, Bool.and_true, Nat.reduceBEq, Bool.false_eq_true, dbin, dIntBin, okR, callG, row9, frz9, frzOf_def, frz_nil, pureB, leaf, leafN, List.all_cons, List.all_nil, List.nil_append, List.append_nil, List.length_nil, List.length_cons, dcells, Nat.zero_add, Bool.and_false, and_true, Int.natCast_nonneg, Int.toNat_natCast, and_self, or_true, or_false, List.cons.injEq, List.getElem?_toArray, dp3, ap22, ia44, len44]
    | (refine drW_intro (by kernel_rfl) ?_)
    | (refine gw_intro (fun h => ?_) (fun h => ?_) <;> (try simp only [beq_true, beq_false, Bool.not_eq_eq_eq_not, Bool.not_true, Bool.not_false, Bool.not_not, decide_eq_true_eq, decide_eq_false_iff_not, ge_iff_le, gt_iff_lt] at h)))
          refine hn _ ⟨i + 1, hlt, ?_, ?_, ?_, ?_⟩ ?_
          · simp only [*, put_slot, ↓reduceIte]
          · simp only [*, put_slot, dem_slot, ↓reduceIte, reduceCtorEq]
          · simp only [*, put_slot, dem_slot, ↓reduceIte, Nat.reduceEqDiff]
          · simp only [*, put_room, dem_room, ↓reduceIte, Nat.reduceEqDiff]
          · simp only [slotI, *, put_slot, ↓reduceIte, Int.toNat_natCast]
            omega
    · have hge : ¬ (i : Int) < l.length := by omega
      rw [List.take_of_length_le (by omega)] at h3 hrm
      clear hn
      repeat' (first
    | simp only [*, go_nil, go_seq, go_cond, go_exit, go_xcode, go_region, go_ops_nil, go_ops, okG_some, cwD_bool, gw_false, guardG, opG, isPtr, inB, sval, stake, eats, eaters, get, St.taken, put_slot, dem_none, ↓reduceIte, Nat.reduceEqDiff, Nat.reduceLT, reduceCtorEq, decide_true, decide_false, List.filterMap_cons, List.filterMap_nil, Option.map_some, List.contains_cons, List.contains_nil, List.map_cons, List.map_nil, Bool.or_false, Nat.reduceBEq, Bool.false_eq_true, dbin, dIntBin, row9, frz9, frzOf_def, frz_nil, Bool.and_false, len44]
    | (refine drW_intro (by kernel_rfl) ?_)
    | (refine gw_intro (fun h => ?_) (fun h => ?_) <;> (try simp only [beq_true, beq_false, Bool.not_eq_eq_eq_not, Bool.not_true, Bool.not_false, Bool.not_not, decide_eq_true_eq, decide_eq_false_iff_not, ge_iff_le, gt_iff_lt] at h)))
      refine hx _ _ ?_
      repeat' (first
    | simp only [*, go_seq, go_retc, go_xblk, go_region, go_ops_nil, go_ops, okG_some, guardG, opG, inB, sval, stake, eats, eaters, get, St.taken, put_slot, put_room, put_box, dem_box, endQ, endR, endV, rvars, rvar, room1, ↓reduceIte, Nat.reduceEqDiff, Nat.reduceLT, decide_true, List.filterMap_cons, List.filterMap_nil, List.contains_cons, List.contains_nil, List.map_nil, beq_self_eq_true, Bool.or_false, Nat.reduceBEq, Bool.false_eq_true, row9, frz9, frzOf_def, frz_nil, pureB, leaf, leafN, List.take_nil, List.range_zero, List.take_succ_cons, Bool.and_false, and_self]
    | (refine drW_intro (by kernel_rfl) ?_)
    | (refine gw_intro (fun h => ?_) (fun h => ?_) <;> (try simp only [beq_true, beq_false, Bool.not_eq_eq_eq_not, Bool.not_true, Bool.not_false, Bool.not_not, decide_eq_true_eq, decide_eq_false_iff_not, ge_iff_le, gt_iff_lt] at h)))
end Go.Av
/- Chapter 19: the document's tokenizer: texts, names. -/
set_option linter.unusedSimpArgs false
set_option linter.unusedVariables false
set_option linter.unusedSectionVars false
set_option maxRecDepth 100000
namespace Go.Av
open Go.Proofs Go.Proofs.Ytaldmffahmomoaa Go.RowKit
def fz (c : Int) : Int := if c = 0 then 65533 else c
def textS (l : List Int) : List UInt8 := nb (textOf (l.map fz))
theorem fz_CL {l : List Int} (h : CL l) : CL (l.map fz) := by
  refine ⟨fun c hc => ?_, by simpa using h.len⟩
  obtain ⟨x, hx, rfl⟩ := List.mem_map.1 hc
  have := h.rng x hx
  unfold fz
  split <;> omega
theorem take_snoc {l : List Int} {i : Nat} (h : i < l.length) : l.take (i + 1) = l.take i ++ [l.getD i 0] := by
  rw [List.take_add_one, List.getElem?_eq_getElem h]
  simp [List.getD, h]
set_option maxHeartbeats 4000000 in
theorem text_L {l : List Int} (h : CL l) : callL Try.prog ext9 59 [LI l] [] = some (.str (textS l), [.no], []) := by
  have lN := LIlen l
  have hl := h.len
  obtain ⟨r, hT⟩ := rtext_L (fz_CL h)
  have hby := bytesOf_ints (textOf (l.map fz))
  unfold textS
  refine callK (m := 30) (res := [2]) (rs := [.tmp 2]) rfl Try.func59 rfl rfl rfl rfl rfl ?_
  generalize textOf (l.map fz) = tx at *
  repeat' (first
    | simp only [*, go_seq, go_block, go_loop, go_region, go_ops_nil, go_ops, okG_some, guardG, opG, inB, sval, stake, eats, eaters, get, cval, cval1, croom, St.taken, put_slot, put_room, dem_none, entry_slot, ↓reduceIte, Nat.reduceLT, decide_true, List.filterMap_cons, List.filterMap_nil, Option.map_some, List.contains_cons, List.contains_nil, List.map_nil, Bool.or_false, Nat.reduceBEq, Bool.false_eq_true, row9, frz9, frzOf_def, frz_nil, List.length_nil, bs44e]
    | (refine drW_intro (by kernel_rfl) ?_)
    | (refine gw_intro (fun h => ?_) (fun h => ?_) <;> (try simp only [beq_true, beq_false, Bool.not_eq_eq_eq_not, Bool.not_true, Bool.not_false, Bool.not_not, decide_eq_true_eq, decide_eq_false_iff_not, ge_iff_le, gt_iff_lt] at h)))
  refine loopH (fun st => ∃ i : Nat, i ≤ l.length ∧ st.slot 4 = .int .i64 i ∧ st.slot 0 = LI l ∧ st.slot 3 = LI ((l.take i).map fz) ∧ (st.room 3 = [.full] ∨ st.room 3 = [.own 3])) (fun st => l.length - slotI st 4) ?_ ?_
  · refine ⟨0, Nat.zero_le _, ?_, ?_, ?_, ?_⟩
    all_goals simp only [*, put_slot, put_room, dem_slot, entry_slot, ↓reduceIte, Nat.reduceEqDiff, reduceCtorEq, List.getD_cons_zero, List.map_nil, List.take_zero, and_true, or_false, List.cons.injEq]
    all_goals rfl
  · rintro st K ⟨i, hi, h4, h0, h3, hrm⟩ hn hx hr
    by_cases hlt : i < l.length
    · have hlt1 : (i : Int) < l.length := by omega
      have hw := w1 i (by omega)
      obtain ⟨d1, d2, d3⟩ := h.at hlt
      have hsz := szI64 ((l.take i).map fz)
      have hfit : (((l.take i).map fz).map (D.int .i64)).length ≤ 1073741823 := by simp; omega
      have hap : ((l.take i).map fz).map (D.int .i64) ++ [.int .i64 (fz (l.getD i 0))] = ((l.take (i + 1)).map fz).map (D.int .i64) := by
        rw [take_snoc hlt, List.map_append, List.map_append]
        rfl
      have hcase : (l.getD i 0 = 0 ∧ fz (l.getD i 0) = 65533) ∨ ((l.getD i 0 == 0) = false ∧ fz (l.getD i 0) = l.getD i 0) := by
        unfold fz
        by_cases hz : l.getD i 0 = 0
        · exact .inl ⟨hz, if_pos hz⟩
        · exact .inr ⟨by simpa using hz, if_neg hz⟩
      obtain ⟨M, hM⟩ : ∃ M, (l.take i).map fz = M := ⟨_, rfl⟩
      obtain ⟨M1, hM1⟩ : ∃ M1, (l.take (i + 1)).map fz = M1 := ⟨_, rfl⟩
      rw [hM] at h3 hsz hfit hap
      rw [hM1] at hap
      have T := Hd.mk hM1
      clear hM hM1 h
      generalize l.getD i 0 = x at *
      rcases hcase with ⟨hx0, hf⟩ | ⟨hx0, hf⟩
      all_goals
        rw [hf] at hap
        first | subst hx0 | skip
        rcases hrm with hrm | hrm
        all_goals
          repeat' (first
    | simp only [*, go_nil, go_seq, go_cond, go_block, go_blk, go_skip, go_region, go_ops_nil, go_ops, okG_some, cwD_bool, gw_true, gw_false, guardG, opG, isPtr, inB, sval, stake, eats, eaters, get, cval, cval1, St.taken, put_slot, put_room, dem_none, dem_slot, ↓reduceIte, Nat.reduceEqDiff, Nat.reduceLT, Nat.reduceLeDiff, reduceCtorEq, decide_true, List.filterMap_cons, List.filterMap_nil, Option.map_some, List.getElem?_cons_zero, List.contains_cons, List.contains_nil, List.map_cons, List.map_nil, beq_self_eq_true, Bool.or_false, Nat.reduceBEq, Bool.false_eq_true, dbin, dIntBin, row9, frz9, frzOf_def, frz_nil, List.length_nil, List.length_cons, dcells, Nat.zero_add, Bool.and_false, and_true, Int.natCast_nonneg, Int.toNat_natCast, and_self, or_true, or_false, szOk_cons, List.cons.injEq, List.getElem?_toArray, dp3, ia44, len44, ap44, bs44]
    | (refine drW_intro (by kernel_rfl) ?_)
    | (refine gw_intro (fun h => ?_) (fun h => ?_) <;> (try simp only [beq_true, beq_false, Bool.not_eq_eq_eq_not, Bool.not_true, Bool.not_false, Bool.not_not, decide_eq_true_eq, decide_eq_false_iff_not, ge_iff_le, gt_iff_lt] at h)))
          refine hn _ ⟨i + 1, hlt, ?_, ?_, ?_, ?_⟩ ?_
          · simp only [*, put_slot, ↓reduceIte]
          · simp only [*, put_slot, dem_slot, ↓reduceIte, reduceCtorEq]
          · rw [show (l.take (i + 1)).map fz = M1 from T]
            simp only [*, put_slot, dem_slot, ↓reduceIte, Nat.reduceEqDiff]
          · simp only [*, put_room, dem_room, ↓reduceIte, Nat.reduceEqDiff, reduceCtorEq, List.cons.injEq, and_true, or_true]
          · simp only [slotI, *, put_slot, ↓reduceIte, Int.toNat_natCast]
            omega
    · have hge : ¬ (i : Int) < l.length := by omega
      rw [List.take_of_length_le (by omega)] at h3
      clear hn
      generalize l.map fz = M at *
      repeat' (first
    | simp only [*, go_nil, go_seq, go_cond, go_exit, go_xcode, go_region, go_ops_nil, go_ops, okG_some, cwD_bool, gw_false, guardG, opG, isPtr, inB, sval, stake, eats, eaters, get, St.taken, put_slot, dem_none, ↓reduceIte, Nat.reduceEqDiff, Nat.reduceLT, reduceCtorEq, decide_true, decide_false, List.filterMap_cons, List.filterMap_nil, Option.map_some, List.contains_cons, List.contains_nil, List.map_cons, List.map_nil, Bool.or_false, Nat.reduceBEq, Bool.false_eq_true, dbin, dIntBin, row9, frz9, frzOf_def, frz_nil, Bool.and_false, len44]
    | (refine drW_intro (by kernel_rfl) ?_)
    | (refine gw_intro (fun h => ?_) (fun h => ?_) <;> (try simp only [beq_true, beq_false, Bool.not_eq_eq_eq_not, Bool.not_true, Bool.not_false, Bool.not_not, decide_eq_true_eq, decide_eq_false_iff_not, ge_iff_le, gt_iff_lt] at h)))
      refine hx _ _ ?_
      repeat' (first
    | simp only [*, go_seq, go_retc, go_xblk, go_region, go_ops_nil, go_ops, okG_some, guardG, opG, isPtr, inB, sval, stake, eats, eaters, get, St.taken, put_slot, put_room, put_box, dem_none, dem_box, endQ, endR, endV, rvars, rvar, room1, ↓reduceIte, Nat.reduceEqDiff, Nat.reduceLT, decide_true, List.filterMap_cons, List.filterMap_nil, Option.map_some, List.contains_cons, List.contains_nil, List.map_cons, List.map_nil, beq_self_eq_true, Bool.or_false, Bool.and_true, Nat.reduceBEq, Bool.false_eq_true, okR, callG, row9, frz9, frzOf_def, frz_nil, pureB, leaf, leafN, List.all_cons, List.all_nil, List.nil_append, List.append_nil, List.take_nil, List.range_zero, Bool.and_false, Bool.false_and, and_self, cv229]
    | (refine drW_intro (by kernel_rfl) ?_)
    | (refine gw_intro (fun h => ?_) (fun h => ?_) <;> (try simp only [beq_true, beq_false, Bool.not_eq_eq_eq_not, Bool.not_true, Bool.not_false, Bool.not_not, decide_eq_true_eq, decide_eq_false_iff_not, ge_iff_le, gt_iff_lt] at h)))
def namesN (l : List Int) : Nat → Nat → List Int → List Int × Nat
  | 0, a, acc => (acc, a)
  | k + 1, a, acc => if atB nmC l a then namesN l k (a + 1) (acc ++ [l.getD a 0]) else if escB l a then namesN l k (valF l a).2 (acc ++ [(valF l a).1]) else (acc, a)
/-- A name's characters from a place on, and the place behind them. -/
def namesF (l : List Int) (a : Nat) : List Int × Nat := namesN l (l.length - a) a []
theorem atB_lt {p : Int → Bool} {l : List Int} {a : Nat} (h : atB p l a = true) : a < l.length := by
  simp only [atB, Bool.and_eq_true, decide_eq_true_eq] at h
  exact h.1
theorem escB_lt {l : List Int} {a : Nat} (h : escB l a = true) : a < l.length := by
  simp only [escB, isC, Bool.and_eq_true, decide_eq_true_eq] at h
  exact h.1.1
theorem namesN_fuel (l : List Int) : ∀ (k a : Nat) (acc : List Int), l.length - a ≤ k → namesN l k a acc = namesN l (l.length - a) a acc
  | 0, a, acc, h => by rw [show l.length - a = 0 by omega]
  | k + 1, a, acc, h => by
    by_cases ha : a < l.length
    · rw [show l.length - a = (l.length - (a + 1)) + 1 by omega, namesN, namesN]
      have h1 := namesN_fuel l k (a + 1) (acc ++ [l.getD a 0]) (by omega)
      split
      · exact h1
      · split
        · have hp := val_pos ha
          rw [namesN_fuel l k _ _ (by omega), namesN_fuel l (l.length - (a + 1)) _ _ (by omega)]
        · rfl
    · rw [show l.length - a = 0 by omega, namesN, namesN]
      rw [if_neg (fun hh => ha (atB_lt hh)), if_neg (fun hh => ha (escB_lt hh))]
  termination_by k a _ _ => (k, l.length - a)
/-- Characters that were gathered up to a place. -/
structure AccOK (l acc : List Int) (a0 a : Nat) : Prop where
  rng : ∀ c ∈ acc, 0 ≤ c ∧ c ≤ 1114111
  len : acc.length + a0 ≤ a
theorem AccOK.snoc {l acc : List Int} {a0 a b : Nat} {c : Int} (h : AccOK l acc a0 a) (hb : a + 1 ≤ b) (hc : 0 ≤ c ∧ c ≤ 1114111) : AccOK l (acc ++ [c]) a0 b := by
  refine ⟨fun x hx => ?_, by have := h.len; simp; omega⟩
  rcases List.mem_append.1 hx with hx | hx
  · exact h.rng x hx
  · simp at hx; subst hx; exact hc
theorem AccOK.CL {l acc : List Int} {a0 a : Nat} (h : AccOK l acc a0 a) (ha : a ≤ 100000) : CL acc := ⟨h.rng, by have := h.len; omega⟩
set_option maxHeartbeats 4000000 in
theorem names_L {l : List Int} (h : CL l) (a0 : Nat) (ha0 : a0 ≤ l.length) : callL Try.prog ext9 56 [LI l, .int .i64 a0] [] = some (.tuple [.str (textS (namesF l a0).1), .int .i64 ((namesF l a0).2 : Nat)], [.no, .no], []) := by
  have hl := h.len
  have lN := LIlen l
  refine callK (m := 39) (res := [4, 5]) (rs := [.tmp 4, .tmp 5]) rfl Try.func56 rfl rfl rfl rfl rfl ?_
  repeat' (first
    | simp only [*, go_seq, go_block, go_loop, go_region, go_ops_nil, go_ops, okG_some, guardG, opG, inB, sval, stake, eats, eaters, get, cval, cval1, croom, St.taken, put_slot, put_room, dem_none, entry_slot, ↓reduceIte, Nat.reduceLT, decide_true, List.filterMap_cons, List.filterMap_nil, Option.map_some, List.contains_cons, List.contains_nil, List.map_nil, Bool.or_false, Nat.reduceBEq, Bool.false_eq_true, row9, frz9, frzOf_def, frz_nil, List.length_nil, bs44e]
    | (refine drW_intro (by kernel_rfl) ?_)
    | (refine gw_intro (fun h => ?_) (fun h => ?_) <;> (try simp only [beq_true, beq_false, Bool.not_eq_eq_eq_not, Bool.not_true, Bool.not_false, Bool.not_not, decide_eq_true_eq, decide_eq_false_iff_not, ge_iff_le, gt_iff_lt] at h)))
  refine loopH (fun st => ∃ (a : Nat) (acc : List Int), a ≤ l.length ∧ Hd (AccOK l acc a0 a) ∧ st.slot 0 = LI l ∧ st.slot 1 = .int .i64 a ∧ st.room 1 = [] ∧ st.slot 6 = LI acc ∧ (st.room 6 = [.full] ∨ st.room 6 = [.own 3]) ∧ Hd (namesN l (l.length - a) a acc = namesF l a0)) (fun st => l.length - slotI st 1) ?_ ?_
  · refine ⟨a0, [], ha0, ⟨by simp, by simp⟩, ?_, ?_, ?_, ?_, ?_, rfl⟩
    all_goals simp only [*, put_slot, put_room, dem_slot, dem_room, entry_slot, entry_room, ↓reduceIte, Nat.reduceEqDiff, reduceCtorEq, List.getD_cons_zero, List.getD_cons_succ, and_true, or_false, List.cons.injEq]
    all_goals rfl
  · rintro st K ⟨a, acc, hal, hacc, h0, h1, hr1, h6, hrm, hinv⟩ hn hx hr
    have hI := inner_L h a
    have hE := esc_L h a (by omega)
    have hinv' : namesN l (l.length - a) a acc = namesF l a0 := hinv
    cases hb : atB nmC l a with
    | true =>
      have hlt := atB_lt hb
      have hlt1 : (a : Int) < l.length := by omega
      have hw := w1 a (by omega)
      obtain ⟨d1, d2, d3⟩ := h.at hlt
      rw [show l.length - a = (l.length - (a + 1)) + 1 by omega, namesN, if_pos hb] at hinv'
      have T := Hd.mk hinv'
      have hacc' := Hd.mk (AccOK.snoc hacc (Nat.le_refl _) ⟨d1, d2⟩)
      have hsz := szI64 acc
      have hfit : (acc.map (D.int .i64)).length ≤ 1073741823 := by have := AccOK.len hacc; simp; omega
      have hap : acc.map (D.int .i64) ++ [.int .i64 (l.getD a 0)] = (acc ++ [l.getD a 0]).map (D.int .i64) := by simp
      rw [hb] at hI
      clear hinv hinv' hacc h hE
      generalize l.getD a 0 = x at *
      rcases hrm with hrm | hrm
      all_goals
        repeat' (first
    | simp only [*, go_nil, go_seq, go_cond, go_block, go_blk, go_region, go_ops_nil, go_ops, okG_some, cwD_bool, gw_true, guardG, opG, isPtr, inB, sval, stake, eats, eaters, get, cval, cval1, St.taken, put_slot, put_room, dem_none, dem_slot, ↓reduceIte, Nat.reduceEqDiff, Nat.reduceLT, Nat.reduceLeDiff, reduceCtorEq, decide_true, List.filterMap_cons, List.filterMap_nil, Option.map_some, List.getElem?_cons_zero, List.contains_cons, List.contains_nil, List.map_cons, List.map_nil, beq_self_eq_true, Bool.or_false, Bool.and_true, Nat.reduceBEq, Bool.false_eq_true, dbin, dIntBin, okR, callG, row9, frz9, frzOf_def, frz_nil, pureB, leaf, leafN, List.all_cons, List.all_nil, List.nil_append, List.append_nil, List.length_nil, List.length_cons, dcells, Nat.zero_add, Bool.and_false, and_true, Int.natCast_nonneg, Int.toNat_natCast, and_self, or_true, or_false, szOk_cons, List.cons.injEq, List.getElem?_toArray, dp3, ia44, ap44, bs44]
    | (refine drW_intro (by kernel_rfl) ?_)
    | (refine gw_intro (fun h => ?_) (fun h => ?_) <;> (try simp only [beq_true, beq_false, Bool.not_eq_eq_eq_not, Bool.not_true, Bool.not_false, Bool.not_not, decide_eq_true_eq, decide_eq_false_iff_not, ge_iff_le, gt_iff_lt] at h)))
        refine hn _ ⟨a + 1, acc ++ [x], hlt, hacc', ?_, ?_, ?_, ?_, ?_, T⟩ ?_
        · simp only [*, put_slot, dem_slot, ↓reduceIte, reduceCtorEq]
        · simp only [*, put_slot, ↓reduceIte]
        · simp only [*, put_room, ↓reduceIte]
        · simp only [*, put_slot, dem_slot, ↓reduceIte, Nat.reduceEqDiff]
        · simp only [*, put_room, dem_room, ↓reduceIte, Nat.reduceEqDiff, reduceCtorEq, List.cons.injEq, and_true, or_true]
        · simp only [slotI, *, put_slot, ↓reduceIte, Int.toNat_natCast]
          omega
    | false =>
      cases hb2 : escB l a with
      | true =>
        have hlt := escB_lt hb2
        have hV := val_L h a (by omega)
        have hvp := val_pos hlt
        have hvr := val_rng h hlt
        have hneg : ¬ atB nmC l a = true := by rw [hb]; simp
        rw [show l.length - a = (l.length - (a + 1)) + 1 by omega, namesN, if_neg hneg, if_pos hb2, namesN_fuel l (l.length - (a + 1)) _ _ (by omega)] at hinv'
        have T := Hd.mk hinv'
        have hacc' := Hd.mk (AccOK.snoc hacc hvp.1 hvr)
        have hsz := szI64 acc
        have hfit : (acc.map (D.int .i64)).length ≤ 1073741823 := by have := AccOK.len hacc; simp; omega
        have hap : acc.map (D.int .i64) ++ [.int .i64 (valF l a).1] = (acc ++ [(valF l a).1]).map (D.int .i64) := by simp
        rw [hb] at hI
        rw [hb2] at hE
        clear hinv hinv' hacc h hneg
        generalize (valF l a).1 = x at *
        generalize (valF l a).2 = b at *
        obtain ⟨hv1, hv2⟩ := hvp
        rcases hrm with hrm | hrm
        all_goals
          repeat' (first
    | simp only [*, go_nil, go_seq, go_cond, go_block, go_blk, go_region, go_ops_nil, go_ops, okG_some, cwD_bool, gw_true, gw_false, guardG, opG, isPtr, inB, sval, stake, eats, eaters, get, cval, cval1, St.taken, put_slot, put_room, dem_none, dem_slot, dem_room, dem_room1, ↓reduceIte, Nat.reduceEqDiff, Nat.reduceLT, Nat.reduceLeDiff, reduceCtorEq, decide_true, List.filterMap_cons, List.filterMap_nil, Option.map_some, List.getElem?_cons_zero, List.getElem?_cons_succ, List.contains_cons, List.contains_nil, List.map_cons, List.map_nil, beq_self_eq_true, Bool.or_false, Bool.or_true, Bool.and_true, Nat.reduceBEq, Bool.false_eq_true, okR, callG, row9, frz9, frzOf_def, frz_nil, pureB, leaf, leafN, List.all_cons, List.all_nil, List.nil_append, List.append_nil, List.length_nil, List.length_cons, dcells, Nat.zero_add, Bool.and_false, and_true, and_self, or_true, or_false, szOk_cons, List.cons.injEq, List.getElem?_toArray, ap44, bs44]
    | (refine drW_intro (by kernel_rfl) ?_)
    | (refine gw_intro (fun h => ?_) (fun h => ?_) <;> (try simp only [beq_true, beq_false, Bool.not_eq_eq_eq_not, Bool.not_true, Bool.not_false, Bool.not_not, decide_eq_true_eq, decide_eq_false_iff_not, ge_iff_le, gt_iff_lt] at h)))
          refine hn _ ⟨b, acc ++ [x], hv2, hacc', ?_, ?_, ?_, ?_, ?_, T⟩ ?_
          · simp only [*, put_slot, dem_slot, ↓reduceIte, reduceCtorEq]
          · simp only [*, put_slot, ↓reduceIte]
          · simp only [*, put_room, ↓reduceIte]
          · simp only [*, put_slot, dem_slot, ↓reduceIte, Nat.reduceEqDiff]
          · simp only [*, put_room, dem_room, ↓reduceIte, Nat.reduceEqDiff, reduceCtorEq, List.cons.injEq, and_true, or_true]
          · simp only [slotI, *, put_slot, ↓reduceIte, Int.toNat_natCast]
            omega
      | false =>
        have hend : namesF l a0 = (acc, a) := by
          rw [← hinv']
          by_cases hlt : a < l.length
          · rw [show l.length - a = (l.length - (a + 1)) + 1 by omega, namesN, if_neg (by rw [hb]; simp), if_neg (by rw [hb2]; simp)]
          · rw [show l.length - a = 0 by omega, namesN]
        have hT := text_L (AccOK.CL hacc (by omega))
        rw [hend] at hr hx
        rw [hb] at hI
        rw [hb2] at hE
        clear hinv hinv' hacc h hend
        repeat' (first
    | simp only [*, go_seq, go_cond, go_block, go_retc, go_region, go_ops_nil, go_ops, okG_some, cwD_bool, gw_false, guardG, opG, isPtr, inB, sval, stake, eats, eaters, get, St.taken, put_slot, put_room, dem_none, dem_slot, dem_room, ↓reduceIte, Nat.reduceEqDiff, Nat.reduceLT, reduceCtorEq, decide_true, List.filterMap_cons, List.filterMap_nil, List.contains_cons, List.contains_nil, List.map_cons, List.map_nil, beq_self_eq_true, Bool.or_false, Bool.or_true, Bool.and_true, Nat.reduceBEq, Bool.false_eq_true, okR, callG, row9, frz9, frzOf_def, frz_nil, pureB, leaf, leafN, List.all_cons, List.all_nil, List.nil_append, List.append_nil, Bool.and_false]
    | (refine drW_intro (by kernel_rfl) ?_)
    | (refine gw_intro (fun h => ?_) (fun h => ?_) <;> (try simp only [beq_true, beq_false, Bool.not_eq_eq_eq_not, Bool.not_true, Bool.not_false, Bool.not_not, decide_eq_true_eq, decide_eq_false_iff_not, ge_iff_le, gt_iff_lt] at h)))
        refine hr _ ?_
        repeat' (first
    | simp only [*, put_slot, put_room, put_box, dem_slot, dem_box, dem_room, endQ, endR, endV, rvars, rvar, room1, ↓reduceIte, Nat.reduceEqDiff, List.map_cons, List.map_nil, pureB, leaf, leafN, List.take_nil, List.range_zero, List.take_succ_cons, and_self]
    | (refine drW_intro (by kernel_rfl) ?_)
    | (refine gw_intro (fun h => ?_) (fun h => ?_) <;> (try simp only [beq_true, beq_false, Bool.not_eq_eq_eq_not, Bool.not_true, Bool.not_false, Bool.not_not, decide_eq_true_eq, decide_eq_false_iff_not, ge_iff_le, gt_iff_lt] at h)))
end Go.Av
/- Chapter 19: the document's tokenizer: comments, numbers. -/
set_option linter.unusedSimpArgs false
set_option linter.unusedVariables false
set_option linter.unusedSectionVars false
set_option maxRecDepth 100000
namespace Go.Av
open Go.Proofs Go.Proofs.Ytaldmffahmomoaa Go.RowKit
/-- The place behind characters of a kind. -/
def runN (p : Nat → Bool) : Nat → Nat → Nat
  | 0, a => a
  | k + 1, a => if p a then runN p k (a + 1) else a
theorem runN_fuel {p : Nat → Bool} {n : Nat} (hp : ∀ a, n ≤ a → p a = false) : ∀ (k a : Nat), n - a ≤ k → runN p k a = runN p (n - a) a
  | 0, a, h => by rw [show n - a = 0 by omega]
  | k + 1, a, h => by
    by_cases ha : a < n
    · rw [show n - a = (n - (a + 1)) + 1 by omega, runN, runN]
      rw [runN_fuel hp k (a + 1) (by omega)]
    · rw [show n - a = 0 by omega, runN, runN, if_neg (by rw [hp a (by omega)]; simp)]
def runF (p : Nat → Bool) (n a : Nat) : Nat := runN p (n - a) a
theorem runF_step {p : Nat → Bool} {n a : Nat} (hp : ∀ a, n ≤ a → p a = false) (h : p a = true) : runF p n a = runF p n (a + 1) := by
  have ha : a < n := by
    apply Classical.byContradiction
    intro hn
    rw [hp a (by omega)] at h
    cases h
  unfold runF
  rw [show n - a = (n - (a + 1)) + 1 by omega, runN, if_pos h]
theorem runF_stop {p : Nat → Bool} {n a : Nat} (h : p a = false) : runF p n a = a := by
  unfold runF
  cases hk : n - a with
  | zero => rfl
  | succ k => rw [runN, if_neg (by rw [h]; simp)]
theorem runN_ge (p : Nat → Bool) : ∀ k a, a ≤ runN p k a ∧ runN p k a ≤ a + k
  | 0, a => by simp [runN]
  | k + 1, a => by
    unfold runN
    have := runN_ge p k (a + 1)
    split <;> omega
theorem runF_pos {p : Nat → Bool} {n a : Nat} : a ≤ runF p n a ∧ (a ≤ n → runF p n a ≤ n) := by
  have := runN_ge p (n - a) a
  unfold runF
  omega
theorem w2 (a : Nat) (h : a ≤ 200000) : IntKind.i64.wrap ((a : Int) + 2) = ((a + 2 : Nat) : Int) := by rw [wrap64 _ (by omega) (by omega)]; omega
theorem nand_t {x y : Bool} (h : true = !(x && y)) : x = false ∨ (x = true ∧ y = false) := by cases x <;> cases y <;> simp_all
theorem nand_f {x y : Bool} (h : false = !(x && y)) : x = true ∧ y = true := by cases x <;> cases y <;> simp_all
/-- Inside a comment. -/
def inC (l : List Int) (a : Nat) : Bool := decide (a < l.length) && !(isC l a 42 && isC l (a + 1) 47)
theorem inC_end {l : List Int} : ∀ a, l.length ≤ a → inC l a = false := fun a h => by simp [inC]; omega
def behN (l : List Int) : Nat → Nat → Nat
  | 0, a => a
  | k + 1, a => if isC l a 47 && isC l (a + 1) 42 then behN l k (min (runF (inC l) l.length (a + 2) + 2) l.length) else a
/-- The place behind comments. -/
def behF (l : List Int) (a : Nat) : Nat := behN l (l.length - a) a
theorem isC_lt {l : List Int} {a : Nat} {c : Int} (h : isC l a c = true) : a < l.length := by
  simp only [isC, Bool.and_eq_true, decide_eq_true_eq] at h
  exact h.1
theorem behN_pos (l : List Int) : ∀ k a, a ≤ behN l k a ∧ (a ≤ l.length → behN l k a ≤ l.length)
  | 0, a => by simp [behN]
  | k + 1, a => by
    unfold behN
    split
    · rename_i h
      simp only [Bool.and_eq_true] at h
      have h1 := isC_lt h.2
      have h2 := behN_pos l k (min (runF (inC l) l.length (a + 2) + 2) l.length)
      have h3 := runF_pos (p := inC l) (n := l.length) (a := a + 2)
      omega
    · exact ⟨Nat.le_refl _, id⟩
theorem behF_pos {l : List Int} {a : Nat} : a ≤ behF l a ∧ (a ≤ l.length → behF l a ≤ l.length) := behN_pos l _ a
theorem behN_fuel (l : List Int) : ∀ (k a : Nat), l.length - a ≤ k → behN l k a = behN l (l.length - a) a
  | 0, a, h => by rw [show l.length - a = 0 by omega]
  | k + 1, a, h => by
    cases hb : isC l a 47 && isC l (a + 1) 42 with
    | true =>
      simp only [Bool.and_eq_true] at hb
      have h1 := isC_lt hb.2
      have h3 := runF_pos (p := inC l) (n := l.length) (a := a + 2)
      rw [show l.length - a = (l.length - (a + 1)) + 1 by omega, behN, behN]
      rw [behN_fuel l k _ (by omega), behN_fuel l (l.length - (a + 1)) _ (by omega)]
    | false =>
      rw [behN, hb, if_neg (by simp)]
      cases hk : l.length - a with
      | zero => rw [behN]
      | succ j => rw [behN, hb, if_neg (by simp)]
  termination_by k a _ => (k, l.length - a)
set_option maxHeartbeats 4000000 in
theorem beh_L {l : List Int} (h : CL l) (a0 : Nat) (ha0 : a0 ≤ l.length) : callL Try.prog ext9 47 [LI l, .int .i64 a0] [] = some (.int .i64 (behF l a0 : Nat), [.no], []) := by
  have hl := h.len
  have lN := LIlen l
  refine callK (m := 43) (res := [4]) (rs := [.tmp 4]) rfl Try.func47 rfl rfl rfl rfl rfl ?_
  repeat' (first
    | simp only [*, go_seq, go_block, go_loop, go_region, go_ops_nil, go_ops, okG_some, guardG, opG, inB, sval, stake, eats, eaters, get, cval, cval1, croom, dem_none, ↓reduceIte, Nat.reduceLT, decide_true, List.filterMap_cons, List.filterMap_nil, List.contains_cons, List.contains_nil, Bool.or_false, Bool.false_eq_true, row9, frz9, frzOf_def, frz_nil, List.length_nil]
    | (refine drW_intro (by kernel_rfl) ?_)
    | (refine gw_intro (fun h => ?_) (fun h => ?_) <;> (try simp only [beq_true, beq_false, Bool.not_eq_eq_eq_not, Bool.not_true, Bool.not_false, Bool.not_not, decide_eq_true_eq, decide_eq_false_iff_not, ge_iff_le, gt_iff_lt] at h)))
  refine loopH (fun st => ∃ a : Nat, a ≤ l.length ∧ st.slot 0 = LI l ∧ st.slot 1 = .int .i64 a ∧ st.room 1 = [] ∧ Hd (behN l (l.length - a) a = behF l a0)) (fun st => l.length - slotI st 1) ?_ ?_
  · refine ⟨a0, ha0, ?_, ?_, ?_, rfl⟩
    all_goals simp only [*, put_slot, put_room, entry_slot, entry_room, ↓reduceIte, Nat.reduceEqDiff, reduceCtorEq, List.getD_cons_zero, List.getD_cons_succ]
    all_goals rfl
  · rintro st K ⟨a, hal, h0, h1, hr1, hinv⟩ hn hx hr
    have i1 := is_L h a 47
    have i2 := is_L h (a + 1) 42
    have hw := w1 a (by omega)
    have hinv' : behN l (l.length - a) a = behF l a0 := hinv
    cases hb1 : isC l a 47 with
    | false =>
      have hend : behF l a0 = a := by
        rw [← hinv']
        cases hk : l.length - a with
        | zero => rw [behN]
        | succ j => rw [behN, hb1]; rfl
      rw [hend] at hr hx
      rw [hb1] at i1
      clear hinv hinv' hend h
      repeat' (first
    | simp only [*, go_nil, go_seq, go_cond, go_exit, go_xcode, go_region, go_ops_nil, go_ops, okG_some, gwD_bool, cwD_bool, gw_false, guardG, opG, isPtr, inB, sval, stake, eats, eaters, get, cval, cval1, croom, St.taken, put_slot, put_room, dem_none, setBox_slot, setBox_room, ↓reduceIte, Nat.reduceEqDiff, Nat.reduceLT, decide_true, List.filterMap_cons, List.filterMap_nil, Option.bind_some, List.getElem?_cons_zero, List.getElem?_cons_succ, List.contains_cons, List.contains_nil, List.map_cons, List.map_nil, Bool.or_false, Bool.and_true, Nat.reduceBEq, Bool.false_eq_true, dbin, dIntBin, okR, callG, row9, frz9, frzOf_def, frz_nil, beq_true, pureB, leaf, leafN, List.all_cons, List.all_nil, List.nil_append, List.append_nil, Bool.and_false, dStrBin]
    | (refine drW_intro (by kernel_rfl) ?_)
    | (refine gw_intro (fun h => ?_) (fun h => ?_) <;> (try simp only [beq_true, beq_false, Bool.not_eq_eq_eq_not, Bool.not_true, Bool.not_false, Bool.not_not, decide_eq_true_eq, decide_eq_false_iff_not, ge_iff_le, gt_iff_lt] at h)))
      refine hx _ _ ?_
      repeat' (first
    | simp only [*, go_seq, go_retc, go_xblk, go_region, go_ops_nil, go_ops, okG_some, guardG, opG, inB, sval, stake, eats, eaters, get, St.taken, put_slot, put_room, put_box, dem_box, endQ, endR, endV, rvars, rvar, room1, ↓reduceIte, Nat.reduceEqDiff, Nat.reduceLT, decide_true, List.filterMap_cons, List.filterMap_nil, List.contains_cons, List.contains_nil, List.map_nil, beq_self_eq_true, Bool.or_false, Nat.reduceBEq, Bool.false_eq_true, row9, frz9, frzOf_def, frz_nil, pureB, leaf, leafN, List.take_nil, List.range_zero, Bool.and_false, and_self]
    | (refine drW_intro (by kernel_rfl) ?_)
    | (refine gw_intro (fun h => ?_) (fun h => ?_) <;> (try simp only [beq_true, beq_false, Bool.not_eq_eq_eq_not, Bool.not_true, Bool.not_false, Bool.not_not, decide_eq_true_eq, decide_eq_false_iff_not, ge_iff_le, gt_iff_lt] at h)))
    | true =>
      cases hb2 : isC l (a + 1) 42 with
      | false =>
        have hend : behF l a0 = a := by
          rw [← hinv']
          cases hk : l.length - a with
          | zero => rw [behN]
          | succ j => rw [behN, hb1, hb2]; rfl
        rw [hend] at hr hx
        rw [hb1] at i1
        rw [hb2] at i2
        clear hinv hinv' hend h
        repeat' (first
    | simp only [*, go_nil, go_seq, go_cond, go_exit, go_xcode, go_region, go_ops_nil, go_ops, okG_some, gwD_bool, cwD_bool, gw_true, gw_false, guardG, opG, isPtr, inB, sval, stake, eats, eaters, get, cval, cval1, croom, St.taken, put_slot, put_room, dem_none, setBox_slot, setBox_room, ↓reduceIte, Nat.reduceEqDiff, Nat.reduceLT, reduceCtorEq, decide_true, List.filterMap_cons, List.filterMap_nil, Option.bind_some, Option.map_some, List.getElem?_cons_zero, List.getElem?_cons_succ, List.contains_cons, List.contains_nil, List.map_cons, List.map_nil, beq_self_eq_true, Bool.or_false, Bool.and_true, Nat.reduceBEq, Bool.false_eq_true, dbin, dIntBin, okR, callG, row9, frz9, frzOf_def, frz_nil, pureB, leaf, leafN, List.all_cons, List.all_nil, List.nil_append, List.append_nil, Bool.and_false, dStrBin]
    | (refine drW_intro (by kernel_rfl) ?_)
    | (refine gw_intro (fun h => ?_) (fun h => ?_) <;> (try simp only [beq_true, beq_false, Bool.not_eq_eq_eq_not, Bool.not_true, Bool.not_false, Bool.not_not, decide_eq_true_eq, decide_eq_false_iff_not, ge_iff_le, gt_iff_lt] at h)))
        refine hx _ _ ?_
        repeat' (first
    | simp only [*, go_seq, go_retc, go_xblk, go_region, go_ops_nil, go_ops, okG_some, guardG, opG, inB, sval, stake, eats, eaters, get, St.taken, put_slot, put_room, put_box, dem_box, endQ, endR, endV, rvars, rvar, room1, ↓reduceIte, Nat.reduceEqDiff, Nat.reduceLT, decide_true, List.filterMap_cons, List.filterMap_nil, List.contains_cons, List.contains_nil, List.map_nil, beq_self_eq_true, Bool.or_false, Nat.reduceBEq, Bool.false_eq_true, row9, frz9, frzOf_def, frz_nil, pureB, leaf, leafN, List.take_nil, List.range_zero, Bool.and_false, and_self]
    | (refine drW_intro (by kernel_rfl) ?_)
    | (refine gw_intro (fun h => ?_) (fun h => ?_) <;> (try simp only [beq_true, beq_false, Bool.not_eq_eq_eq_not, Bool.not_true, Bool.not_false, Bool.not_not, decide_eq_true_eq, decide_eq_false_iff_not, ge_iff_le, gt_iff_lt] at h)))
      | true =>
        have hlt := isC_lt hb2
        have hw2 := w2 a (by omega)
        rw [show l.length - a = (l.length - (a + 1)) + 1 by omega, behN, hb1, hb2, if_pos (by rfl)] at hinv'
        have hrp := runF_pos (p := inC l) (n := l.length) (a := a + 2)
        rw [behN_fuel l _ _ (by omega)] at hinv'
        rw [hb1] at i1
        rw [hb2] at i2
        have HX := Hd.mk hinv'
        have HP := Hd.mk hrp
        clear hinv hinv' hrp hr
        have hn1 := hn
        clear hn hx
        repeat' (first
    | simp only [*, go_seq, go_cond, go_block, go_skip, go_loop, go_region, go_ops_nil, go_ops, okG_some, gwD_bool, cwD_bool, gw_true, guardG, opG, isPtr, inB, sval, stake, eats, eaters, get, cval, cval1, croom, St.taken, put_slot, put_room, dem_none, setBox_slot, setBox_room, ↓reduceIte, Nat.reduceEqDiff, Nat.reduceLT, reduceCtorEq, decide_true, List.filterMap_cons, List.filterMap_nil, Option.bind_some, Option.map_some, List.getElem?_cons_zero, List.getElem?_cons_succ, List.contains_cons, List.contains_nil, List.map_cons, List.map_nil, beq_self_eq_true, Bool.or_false, Bool.and_true, Nat.reduceBEq, Bool.false_eq_true, dbin, dIntBin, okR, callG, row9, frz9, frzOf_def, frz_nil, pureB, leaf, leafN, List.all_cons, List.all_nil, List.nil_append, List.append_nil, Bool.and_false, dStrBin]
    | (refine drW_intro (by kernel_rfl) ?_)
    | (refine gw_intro (fun h => ?_) (fun h => ?_) <;> (try simp only [beq_true, beq_false, Bool.not_eq_eq_eq_not, Bool.not_true, Bool.not_false, Bool.not_not, decide_eq_true_eq, decide_eq_false_iff_not, ge_iff_le, gt_iff_lt] at h)))
        refine loopH (fun st => ∃ b : Nat, a + 2 ≤ b ∧ b ≤ l.length ∧ st.slot 0 = LI l ∧ st.slot 1 = .int .i64 b ∧ st.room 1 = [] ∧ Hd (runF (inC l) l.length b = runF (inC l) l.length (a + 2))) (fun st => l.length - slotI st 1) ?_ ?_
        · refine ⟨a + 2, Nat.le_refl _, by omega, ?_, ?_, ?_, rfl⟩
          all_goals simp only [*, put_slot, put_room, dem_slot, ↓reduceIte, reduceCtorEq]
        · rintro st2 K2 ⟨b, hba, hbl, g0, g1, gr1, hinv2⟩ hn hx hr
          have j1 := is_L h b 42
          have j2 := is_L h (b + 1) 47
          have hwb := w1 b (by omega)
          have hinv2' : runF (inC l) l.length b = runF (inC l) l.length (a + 2) := hinv2
          by_cases hlb : b < l.length
          · have hlb1 : (b : Int) < l.length := by omega
            have hdb : inC l b = !(isC l b 42 && isC l (b + 1) 47) := by simp [inC, hlb]
            cases hc : inC l b with
            | true =>
              have T := Hd.mk ((runF_step inC_end hc).symm.trans hinv2')
              rw [hc] at hdb
              have hdb' := nand_t hdb
              clear hinv2 hinv2' hdb
              rcases hdb' with e1 | ⟨e1, e2⟩
              · rw [e1] at j1
                clear h
                repeat' (first
    | simp only [*, go_nil, go_seq, go_cond, go_block, go_blk, go_skip, go_region, go_ops_nil, go_ops, okG_some, gwD_bool, cwD_bool, gw_true, gw_false, guardG, opG, isPtr, inB, sval, stake, eats, eaters, get, cval, cval1, croom, St.taken, put_slot, put_room, dem_none, setBox_slot, setBox_room, ↓reduceIte, Nat.reduceEqDiff, Nat.reduceLT, reduceCtorEq, decide_true, List.filterMap_cons, List.filterMap_nil, Option.bind_some, Option.map_some, List.getElem?_cons_zero, List.getElem?_cons_succ, List.contains_cons, List.contains_nil, List.map_cons, List.map_nil, beq_self_eq_true, Bool.or_false, Bool.and_true, Nat.reduceBEq, Bool.false_eq_true, dbin, dIntBin, okR, callG, row9, frz9, frzOf_def, frz_nil, beq_true, Bool.not_false, pureB, leaf, leafN, List.all_cons, List.all_nil, List.nil_append, List.append_nil, dun, Bool.and_false, dStrBin, len44]
    | (refine drW_intro (by kernel_rfl) ?_)
    | (refine gw_intro (fun h => ?_) (fun h => ?_) <;> (try simp only [beq_true, beq_false, Bool.not_eq_eq_eq_not, Bool.not_true, Bool.not_false, Bool.not_not, decide_eq_true_eq, decide_eq_false_iff_not, ge_iff_le, gt_iff_lt] at h)))
                refine hn _ ⟨b + 1, by omega, hlb, ?_, ?_, ?_, T⟩ ?_
                · simp only [*, put_slot, dem_slot, ↓reduceIte, reduceCtorEq]
                · simp only [*, put_slot, ↓reduceIte]
                · simp only [*, put_room, ↓reduceIte]
                · simp only [slotI, *, put_slot, ↓reduceIte, Int.toNat_natCast]
                  omega
              · rw [e1] at j1
                rw [e2] at j2
                clear h
                repeat' (first
    | simp only [*, go_nil, go_seq, go_cond, go_block, go_blk, go_skip, go_region, go_ops_nil, go_ops, okG_some, gwD_bool, cwD_bool, gw_true, guardG, opG, isPtr, inB, sval, stake, eats, eaters, get, cval, cval1, croom, St.taken, put_slot, put_room, dem_none, setBox_slot, setBox_room, ↓reduceIte, Nat.reduceEqDiff, Nat.reduceLT, reduceCtorEq, decide_true, List.filterMap_cons, List.filterMap_nil, Option.bind_some, Option.map_some, List.getElem?_cons_zero, List.getElem?_cons_succ, List.contains_cons, List.contains_nil, List.map_cons, List.map_nil, beq_self_eq_true, Bool.or_false, Bool.and_true, Nat.reduceBEq, Bool.false_eq_true, dbin, dIntBin, okR, callG, row9, frz9, frzOf_def, frz_nil, Bool.not_false, pureB, leaf, leafN, List.all_cons, List.all_nil, List.nil_append, List.append_nil, dun, Bool.and_false, dStrBin, len44]
    | (refine drW_intro (by kernel_rfl) ?_)
    | (refine gw_intro (fun h => ?_) (fun h => ?_) <;> (try simp only [beq_true, beq_false, Bool.not_eq_eq_eq_not, Bool.not_true, Bool.not_false, Bool.not_not, decide_eq_true_eq, decide_eq_false_iff_not, ge_iff_le, gt_iff_lt] at h)))
                refine hn _ ⟨b + 1, by omega, hlb, ?_, ?_, ?_, T⟩ ?_
                · simp only [*, put_slot, dem_slot, ↓reduceIte, reduceCtorEq]
                · simp only [*, put_slot, ↓reduceIte]
                · simp only [*, put_room, ↓reduceIte]
                · simp only [slotI, *, put_slot, ↓reduceIte, Int.toNat_natCast]
                  omega
            | false =>
              rw [hc] at hdb
              obtain ⟨e1, e2⟩ := nand_f hdb
              have hrb := runF_stop (n := l.length) hc
              rw [e1] at j1
              rw [e2] at j2
              have hb3 := isC_lt e2
              have hw2b := w2 b (by omega)
              have hmin : min (runF (inC l) l.length (a + 2) + 2) l.length = b + 2 := by rw [← hinv2', hrb]; omega
              have HX2 : behN l (l.length - (b + 2)) (b + 2) = behF l a0 := by
                have h1 : _ = behF l a0 := HX
                rw [hmin] at h1
                exact h1
              have T := Hd.mk HX2
              have hle : ¬ ((b + 2 : Nat) : Int) > l.length := by omega
              clear hinv2 hinv2' hdb HX2 HX hmin hrb h hn hr h0 hr1 i1 i2
              repeat' (first
    | simp only [*, go_nil, go_seq, go_cond, go_exit, go_xcode, go_region, go_ops_nil, go_ops, okG_some, gwD_bool, cwD_bool, gw_true, gw_false, guardG, opG, isPtr, inB, sval, stake, eats, eaters, get, cval, cval1, croom, St.taken, put_slot, put_room, dem_none, setBox_slot, setBox_room, ↓reduceIte, Nat.reduceEqDiff, Nat.reduceLT, reduceCtorEq, decide_true, List.filterMap_cons, List.filterMap_nil, Option.bind_some, Option.map_some, List.getElem?_cons_zero, List.getElem?_cons_succ, List.contains_cons, List.contains_nil, List.map_cons, List.map_nil, beq_self_eq_true, Bool.or_false, Bool.and_true, Nat.reduceBEq, Bool.false_eq_true, dbin, dIntBin, okR, callG, row9, frz9, frzOf_def, frz_nil, Bool.not_true, pureB, leaf, leafN, List.all_cons, List.all_nil, List.nil_append, List.append_nil, dun, Bool.and_false, dStrBin, len44]
    | (refine drW_intro (by kernel_rfl) ?_)
    | (refine gw_intro (fun h => ?_) (fun h => ?_) <;> (try simp only [beq_true, beq_false, Bool.not_eq_eq_eq_not, Bool.not_true, Bool.not_false, Bool.not_not, decide_eq_true_eq, decide_eq_false_iff_not, ge_iff_le, gt_iff_lt] at h)))
              refine hx _ _ ?_
              repeat' (first
    | simp only [*, go_nil, go_seq, go_cond, go_blk, go_skip, go_xblk, go_region, go_ops_nil, go_ops, okG_some, cwD_bool, gw_false, guardG, opG, isPtr, inB, sval, stake, eats, eaters, get, cval, cval1, St.taken, put_slot, put_room, dem_none, dem_slot, ↓reduceIte, Nat.reduceEqDiff, Nat.reduceLT, reduceCtorEq, decide_true, decide_false, List.filterMap_cons, List.filterMap_nil, Option.map_some, List.contains_cons, List.contains_nil, List.map_cons, List.map_nil, Bool.or_false, Nat.reduceBEq, Bool.false_eq_true, dbin, dIntBin, row9, frz9, frzOf_def, frz_nil, Bool.and_false, gt_iff_lt, len44]
    | (refine drW_intro (by kernel_rfl) ?_)
    | (refine gw_intro (fun h => ?_) (fun h => ?_) <;> (try simp only [beq_true, beq_false, Bool.not_eq_eq_eq_not, Bool.not_true, Bool.not_false, Bool.not_not, decide_eq_true_eq, decide_eq_false_iff_not, ge_iff_le, gt_iff_lt] at h)))
              refine hn1 _ ⟨b + 2, by omega, ?_, ?_, ?_, T⟩ ?_
              · simp only [*, put_slot, dem_slot, ↓reduceIte, reduceCtorEq]
              · simp only [*, put_slot, ↓reduceIte, Nat.reduceEqDiff]
              · simp only [*, put_room, ↓reduceIte, Nat.reduceEqDiff]
              · simp only [slotI, *, put_slot, ↓reduceIte, Nat.reduceEqDiff, Int.toNat_natCast]
                omega
          · have hlb1 : ¬ (b : Int) < l.length := by omega
            have hbe : b = l.length := by omega
            have hrb := runF_stop (n := l.length) (inC_end (l := l) b (by omega))
            have hw2b := w2 b (by omega)
            have hmin : min (runF (inC l) l.length (a + 2) + 2) l.length = l.length := by rw [← hinv2', hrb]; omega
            have HX2 : behN l (l.length - l.length) l.length = behF l a0 := by
              have h1 : _ = behF l a0 := HX
              rw [hmin] at h1
              exact h1
            have T := Hd.mk HX2
            have hle : ((b + 2 : Nat) : Int) > l.length := by omega
            clear hinv2 hinv2' HX2 HX hmin hrb h hn hr h0 hr1 i1 i2 hbe
            repeat' (first
    | simp only [*, go_nil, go_seq, go_cond, go_exit, go_xcode, go_region, go_ops_nil, go_ops, okG_some, gwD_bool, gwD_undef, cwD_bool, gw_false, guardG, opG, isPtr, inB, sval, stake, eats, eaters, get, cval, cval1, croom, St.taken, put_slot, put_room, dem_none, setBox_slot, setBox_room, ↓reduceIte, Nat.reduceEqDiff, Nat.reduceLT, reduceCtorEq, decide_true, decide_false, List.filterMap_cons, List.filterMap_nil, Option.bind_some, Option.map_some, List.getElem?_cons_zero, List.getElem?_cons_succ, List.contains_cons, List.contains_nil, List.map_cons, List.map_nil, Bool.or_false, Nat.reduceBEq, Bool.false_eq_true, dbin, dIntBin, okR, callG, row9, frz9, frzOf_def, frz_nil, beq_true, List.nil_append, dun, Bool.and_false, dStrBin, len44]
    | (refine drW_intro (by kernel_rfl) ?_)
    | (refine gw_intro (fun h => ?_) (fun h => ?_) <;> (try simp only [beq_true, beq_false, Bool.not_eq_eq_eq_not, Bool.not_true, Bool.not_false, Bool.not_not, decide_eq_true_eq, decide_eq_false_iff_not, ge_iff_le, gt_iff_lt] at h)))
            refine hx _ _ ?_
            repeat' (first
    | simp only [*, go_nil, go_seq, go_cond, go_blk, go_xblk, go_region, go_ops_nil, go_ops, okG_some, cwD_bool, gw_true, guardG, opG, isPtr, inB, sval, stake, eats, eaters, get, cval, cval1, St.taken, put_slot, put_room, dem_none, dem_slot, ↓reduceIte, Nat.reduceEqDiff, Nat.reduceLT, reduceCtorEq, decide_true, List.filterMap_cons, List.filterMap_nil, Option.map_some, List.contains_cons, List.contains_nil, List.map_cons, List.map_nil, Bool.or_false, Nat.reduceBEq, Bool.false_eq_true, dbin, dIntBin, row9, frz9, frzOf_def, frz_nil, Bool.and_false, gt_iff_lt, len44]
    | (refine drW_intro (by kernel_rfl) ?_)
    | (refine gw_intro (fun h => ?_) (fun h => ?_) <;> (try simp only [beq_true, beq_false, Bool.not_eq_eq_eq_not, Bool.not_true, Bool.not_false, Bool.not_not, decide_eq_true_eq, decide_eq_false_iff_not, ge_iff_le, gt_iff_lt] at h)))
            refine hn1 _ ⟨l.length, Nat.le_refl _, ?_, ?_, ?_, T⟩ ?_
            · simp only [*, put_slot, dem_slot, ↓reduceIte, reduceCtorEq]
            · simp only [*, put_slot, ↓reduceIte]
            · simp only [*, put_room, ↓reduceIte]
            · simp only [slotI, *, put_slot, ↓reduceIte, Int.toNat_natCast]
              omega
end Go.Av
