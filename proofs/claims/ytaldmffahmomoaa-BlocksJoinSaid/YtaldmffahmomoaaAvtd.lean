/- The evaluator, in one text: over any program; no conditions but those that each law names. -/
import Derived.Test.YtaldmffahmomoaaAvtc
import Derived.Test.YtaldmffahmomoaaPlF
import Derived.Test.YtaldmffahmomoaaAvta
set_option linter.unusedSimpArgs false
set_option linter.unusedVariables false
set_option linter.unusedSectionVars false
/- Chapter 19: small letters. -/
set_option linter.unusedSimpArgs false
namespace Go.Av
open Go.Proofs Go.Proofs.Ytaldmffahmomoaa Go.RowKit
def lowC (x : UInt8) : UInt8 := if 65 ≤ x.toNat ∧ x.toNat ≤ 90 then x + 32 else x
def lowB (l : List UInt8) : List UInt8 := l.map lowC
def lowI (n : Int) : Int := if n ≥ 65 ∧ n ≤ 90 then n + 32 else n
set_option maxHeartbeats 1000000 in
theorem small_L (n : Int) (h0 : 0 ≤ n) (h1 : n ≤ 1000000) : callL Try.prog ext9 63 [.int .i64 n] [] = some (.int .i64 (lowI n), [.no], []) := by
  refine callK (m := 13) (res := [2]) (rs := [.tmp 2]) rfl Try.func63 rfl rfl rfl rfl rfl ?_
  repeat' (first
    | simp only [*, go_seq, go_cond, go_skip, go_retc, go_region, go_ops_nil, go_ops, okG_some, gwD_bool, cwD_bool, gw_true, gw_false, guardG, opG, inB, sval, stake, eats, eaters, get, cval, cval1, croom, St.taken, put_slot, put_room, put_box, dem_none, dem_box, entry_slot, entry_room, entry_box, endQ, endR, endV, rvars, rvar, room1, ↓reduceIte, Nat.reduceEqDiff, Nat.reduceLT, reduceCtorEq, decide_true, decide_false, List.filterMap_cons, List.filterMap_nil, Option.bind_some, Option.map_some, List.getElem?_cons_zero, List.getElem?_cons_succ, List.getD_cons_zero, List.contains_cons, List.contains_nil, List.map_nil, beq_self_eq_true, Bool.or_false, Nat.reduceBEq, Bool.false_eq_true, dbin, dIntBin, row9, frz9, frzOf_def, frz_nil, beq_true, pureB, leaf, leafN, List.take_nil, List.range_zero, List.length_nil, List.getElem?_nil, Bool.and_false, and_true, ge_iff_le, dStrBin]
    | (refine drW_intro (by kernel_rfl) ?_)
    | (refine gw_intro (fun h => ?_) (fun h => ?_) <;> (try simp only [decide_eq_true_eq, decide_eq_false_iff_not] at h)))
  · rw [wrap64 (n + 97) (by omega) (by omega), wrap64 _ (by omega) (by omega), lowI, if_pos (by omega)]
    congr 3
    omega
  · rw [lowI, if_neg (by omega)]
  · rw [lowI, if_neg (by omega)]
theorem lowC_I (x : UInt8) : IntKind.u8.wrap (lowI x.toNat) = ((lowC x).toNat : Int) := by
  have h := x.toNat_lt
  unfold lowI lowC
  rw [IntKind.wrap_u8]
  split <;> split
  · rw [UInt8.toNat_add]
    have : (32 : UInt8).toNat = 32 := rfl
    omega
  · omega
  · omega
  · omega
def byteD (b : UInt8) : D := .int .u8 b.toNat
theorem row_bytes : ∀ (n : Nat) (l : List UInt8), l.length = n → rowList 1 false n (l.map byteD) = l.map byteD
  | 0, [], _ => rfl
  | n + 1, x :: r, h => by
    simp only [List.map_cons, rowList, List.take_succ_cons, List.take_zero, List.drop_succ_cons, List.drop_zero, rowElem, List.headD_cons]
    rw [row_bytes n r (by simpa using h)]
    rfl
theorem bytes_of : ∀ (l : List UInt8), bytesOf (l.map byteD) = some l
  | [] => rfl
  | x :: r => by
    show (bytesOf (r.map byteD)).map (UInt8.ofNat ((x.toNat : Int)).toNat :: ·) = _
    rw [bytes_of r]
    simp
set_option maxHeartbeats 1000000 in
theorem lower_L (l : List UInt8) (hl : l.length < 1099511627776) : callL Try.prog ext9 42 [.str l] [] = some (.str (lowB l), [.no], []) := by
  refine callK (m := 25) (res := [2]) (rs := [.tmp 2]) rfl Try.func42 rfl rfl rfl rfl rfl ?_
  have e0 : (fun b : UInt8 => D.int .u8 b.toNat) = byteD := rfl
  repeat' (first
    | simp only [*, go_seq, go_block, go_loop, go_region, go_ops_nil, go_ops, okG_some, okB_some, guardG, opG, isPtr, inB, sval, stake, eats, eaters, get, cval, cval1, croom, St.taken, put_slot, put_room, put_ctr, dem_none, setBox_slot, setBox_room, entry_slot, entry_ctr, ↓reduceIte, Nat.reduceLT, reduceCtorEq, decide_true, List.filterMap_cons, List.filterMap_nil, Option.map_some, List.getD_cons_zero, List.contains_cons, List.contains_nil, List.map_cons, List.map_nil, beq_self_eq_true, Bool.or_false, Bool.and_true, Nat.reduceBEq, Bool.false_eq_true, row9, frz9, frzOf_def, frz_nil, stepRow, madeRow, List.length_nil, Nat.reduceAdd, Bool.and_false, and_self, ty22, len22r, cv922]
    | (refine drW_intro (by kernel_rfl) ?_)
    | (refine gw_intro (fun h => ?_) (fun h => ?_) <;> (try simp only [beq_true, beq_false, Bool.not_eq_eq_eq_not, Bool.not_true, Bool.not_false, Bool.not_not, decide_eq_true_eq, decide_eq_false_iff_not, ge_iff_le, gt_iff_lt] at h)))
  refine loopH (fun s => ∃ i : Nat, i ≤ l.length ∧ s.slot 10 = .int .i64 i ∧ s.slot 9 = .int .i64 l.length ∧ s.slot 8 = .row 7 1 l.length 1 false ∧ s.slot 3 = .row 7 1 l.length 1 false ∧
    s.box 7 = some ⟨1, ((lowB (l.take i)) ++ l.drop i).map byteD⟩) (fun s => l.length - slotI s 10) ?_ ?_
  · refine ⟨0, Nat.zero_le _, ?_, ?_, ?_, ?_, ?_⟩
    all_goals simp only [*, put_slot, put_box, dem_box, setBox_box, ↓reduceIte, Nat.reduceEqDiff, List.take_zero, List.drop_zero, List.length_map]
    all_goals rfl
  · rintro s K ⟨i, hi, h10, h9, h8, h3, hb⟩ hn hx hr
    by_cases hlt : i < l.length
    · obtain ⟨x, hxl⟩ : ∃ x, l[i]? = some x := ⟨l[i], List.getElem?_eq_getElem hlt⟩
      have hlt' : (i : Int) < l.length := by omega
      have hlen : (lowB (l.take i)).length = i := by simp [lowB]; omega
      have hget : (((lowB (l.take i)) ++ l.drop i).map byteD)[i]? = some (.int .u8 x.toNat) := by
        rw [List.getElem?_map, List.getElem?_append_right (by omega), hlen, Nat.sub_self, List.getElem?_drop, Nat.add_zero, hxl]
        rfl
      have hxb := x.toNat_lt
      have hw : IntKind.i64.wrap (x.toNat : Int) = x.toNat := wrap64 _ (by omega) (by omega)
      have hs := small_L (x.toNat : Int) (by omega) (by omega)
      have hc := lowC_I x
      have hfit : i + 1 ≤ (((lowB (l.take i)) ++ l.drop i).map byteD).length := by simp [hlen]; omega
      have hw1 : IntKind.i64.wrap ((i : Int) + 1) = ((i + 1 : Nat) : Int) := by rw [wrap64 _ (by omega) (by omega)]; omega
      repeat' (first
    | simp only [*, go_nil, go_seq, go_cond, go_block, go_blk, go_skip, go_region, go_ops_nil, go_ops, okG_some, okB_some, cwD_bool, gw_true, guardG, opG, isPtr, inB, sval, stake, eats, eaters, get, cval, cval1, St.taken, put_slot, put_room, put_box, put_none, dem_none, dem_slot, dem_box, dem_room, setBox_slot, ↓reduceIte, Nat.reduceEqDiff, Nat.reduceLT, decide_true, List.filterMap_cons, List.filterMap_nil, Option.map_some, List.contains_cons, List.contains_nil, List.map_cons, List.map_nil, beq_self_eq_true, Bool.or_false, Bool.and_true, Nat.reduceBEq, Bool.false_eq_true, dbin, dIntBin, okR, callG, row9, frz9, frzOf_def, frz_nil, pureB, leaf, leafN, List.all_cons, List.all_nil, List.nil_append, List.append_nil, List.length_nil, List.length_cons, dcells, Nat.zero_add, stepBox, Bool.and_false, Bool.false_and, Int.natCast_nonneg, Int.toNat_natCast, and_self, Nat.mul_one, ty5, dp5, ia22r, cv53, cv35]
    | (refine drW_intro (by kernel_rfl) ?_)
    | (refine gw_intro (fun h => ?_) (fun h => ?_) <;> (try simp only [beq_true, beq_false, Bool.not_eq_eq_eq_not, Bool.not_true, Bool.not_false, Bool.not_not, decide_eq_true_eq, decide_eq_false_iff_not, ge_iff_le, gt_iff_lt] at h)))
      refine hn _ ⟨i + 1, hlt, ?_, ?_, ?_, ?_, ?_⟩ ?_
      · simp only [*, put_slot, ↓reduceIte]
      · simp only [*, put_slot, dem_slot, setBox_slot, ↓reduceIte, Nat.reduceEqDiff]
      · simp only [*, put_slot, dem_slot, setBox_slot, ↓reduceIte, Nat.reduceEqDiff]
      · simp only [*, put_slot, dem_slot, setBox_slot, ↓reduceIte, Nat.reduceEqDiff]
      · simp only [*, put_box, setBox_box, ↓reduceIte, Option.some.injEq]
        congr 2
        rw [List.map_append, List.take_append_of_le_length (by simp [hlen]), List.take_of_length_le (by simp [hlen]), List.drop_append, List.drop_eq_nil_of_le (by simp [hlen])]
        rw [show l.take (i + 1) = l.take i ++ [x] from by rw [List.take_add_one, hxl]; rfl]
        simp [lowB, byteD]
        omega
      · simp only [slotI, *, put_slot, ↓reduceIte, Int.toNat_natCast]
        omega
    · have hge : ¬ (i : Int) < l.length := by omega
      repeat' (first
    | simp only [*, go_nil, go_seq, go_cond, go_exit, go_xcode, go_region, go_ops_nil, go_ops, okG_some, cwD_bool, gw_false, guardG, opG, inB, sval, stake, eats, eaters, get, put_slot, dem_none, ↓reduceIte, Nat.reduceLT, decide_true, decide_false, List.filterMap_cons, List.filterMap_nil, Option.map_some, List.contains_cons, List.contains_nil, Bool.or_false, Bool.false_eq_true, dbin, dIntBin, row9, frz9, frzOf_def, frz_nil]
    | (refine drW_intro (by kernel_rfl) ?_)
    | (refine gw_intro (fun h => ?_) (fun h => ?_) <;> (try simp only [beq_true, beq_false, Bool.not_eq_eq_eq_not, Bool.not_true, Bool.not_false, Bool.not_not, decide_eq_true_eq, decide_eq_false_iff_not, ge_iff_le, gt_iff_lt] at h)))
      refine hx 0 _ ?_
      have hil : i = l.length := by omega
      subst hil
      rw [List.take_length, List.drop_length, List.append_nil] at hb
      have hfr : l.length ≤ ((lowB l).map byteD).length := by simp [lowB]
      have hrl : rowList 1 false l.length ((lowB l).map byteD) = (lowB l).map byteD := row_bytes l.length (lowB l) (by simp [lowB])
      have hby := bytes_of (lowB l)
      repeat' (first
    | simp only [*, go_seq, go_retc, go_xblk, go_region, go_ops_nil, go_ops, okG_some, guardG, opG, inB, sval, stake, eats, eaters, get, St.taken, put_slot, put_room, put_box, put_ctr, dem_none, dem_box, endQ, endR, endV, rvars, rvar, room1, ↓reduceIte, Nat.reduceEqDiff, Nat.reduceLT, decide_true, List.filterMap_cons, List.filterMap_nil, Option.map_some, List.contains_cons, List.contains_nil, List.map_nil, beq_self_eq_true, Bool.or_false, Bool.and_true, Nat.reduceBEq, Bool.false_eq_true, row9, frz9, frzOf_def, frz_nil, frz_cons, frzD, pureB, leaf, leafN, List.take_nil, List.range_zero, Bool.and_false, Bool.false_and, and_self, Nat.mul_one, St.freeze, or_true, cv229]
    | (refine drW_intro (by kernel_rfl) ?_)
    | (refine gw_intro (fun h => ?_) (fun h => ?_) <;> (try simp only [beq_true, beq_false, Bool.not_eq_eq_eq_not, Bool.not_true, Bool.not_false, Bool.not_not, decide_eq_true_eq, decide_eq_false_iff_not, ge_iff_le, gt_iff_lt] at h)))
set_option maxHeartbeats 1000000 in
theorem rsmall_L (n : Int) (h0 : 0 ≤ n) (h1 : n ≤ 1000000) : callL Try.prog ext9 64 [.int .i64 n] [] = some (.int .i64 (lowI n), [.no], []) := by
  refine callK (m := 12) (res := [2]) (rs := [.tmp 2]) rfl Try.func64 rfl rfl rfl rfl rfl ?_
  repeat' (first
    | simp only [*, go_seq, go_cond, go_skip, go_retc, go_region, go_ops_nil, go_ops, okG_some, gwD_bool, cwD_bool, gw_true, gw_false, guardG, opG, inB, sval, stake, eats, eaters, get, cval, cval1, croom, St.taken, put_slot, put_room, put_box, dem_none, dem_box, entry_slot, entry_room, entry_box, endQ, endR, endV, rvars, rvar, room1, ↓reduceIte, Nat.reduceEqDiff, Nat.reduceLT, reduceCtorEq, decide_true, decide_false, List.filterMap_cons, List.filterMap_nil, Option.bind_some, Option.map_some, List.getElem?_cons_zero, List.getElem?_cons_succ, List.getD_cons_zero, List.contains_cons, List.contains_nil, List.map_nil, beq_self_eq_true, Bool.or_false, Nat.reduceBEq, Bool.false_eq_true, dbin, dIntBin, row9, frz9, frzOf_def, frz_nil, beq_true, pureB, leaf, leafN, List.take_nil, List.range_zero, List.length_nil, List.getElem?_nil, Bool.and_false, and_true, ge_iff_le, dStrBin]
    | (refine drW_intro (by kernel_rfl) ?_)
    | (refine gw_intro (fun h => ?_) (fun h => ?_) <;> (try simp only [decide_eq_true_eq, decide_eq_false_iff_not] at h)))
  · rw [wrap64 (n + 32) (by omega) (by omega), lowI, if_pos (by omega)]
  · rw [lowI, if_neg (by omega)]
  · rw [lowI, if_neg (by omega)]
theorem szOk_bytes (l : List UInt8) : szOk 1 (l.map byteD) = true := by
  cases l <;> rfl
theorem at_get {l : List UInt8} {i : Nat} (h : i < l.length) : ∃ x, l[i]? = some x ∧ l.getD i 0 = x := ⟨l[i], List.getElem?_eq_getElem h, by simp [List.getD, h]⟩
set_option maxHeartbeats 1000000 in
theorem rlower_L (l : List UInt8) (hl : l.length < 1000000000) : ∃ r, callL Try.prog ext9 43 [.str l] [] = some (.str (lowB l), r, []) := by
  refine ⟨[.no], ?_⟩
  refine callK (m := 23) (res := [2]) (rs := [.tmp 2]) rfl Try.func43 rfl rfl rfl rfl rfl ?_
  repeat' (first
    | simp only [*, go_seq, go_block, go_loop, go_region, go_ops_nil, go_ops, okG_some, guardG, opG, inB, sval, stake, eats, eaters, get, cval, cval1, croom, St.taken, put_slot, put_room, dem_none, entry_slot, ↓reduceIte, Nat.reduceLT, decide_true, List.filterMap_cons, List.filterMap_nil, Option.map_some, List.contains_cons, List.contains_nil, List.map_nil, Bool.or_false, Nat.reduceBEq, Bool.false_eq_true, row9, frz9, frzOf_def, frz_nil, List.length_nil, bs22e]
    | (refine drW_intro (by kernel_rfl) ?_)
    | (refine gw_intro (fun h => ?_) (fun h => ?_) <;> (try simp only [beq_true, beq_false, Bool.not_eq_eq_eq_not, Bool.not_true, Bool.not_false, Bool.not_not, decide_eq_true_eq, decide_eq_false_iff_not, ge_iff_le, gt_iff_lt] at h)))
  refine loopH (fun s => ∃ i : Nat, i ≤ l.length ∧ s.slot 4 = .int .i64 i ∧ s.slot 0 = .str l ∧ s.slot 3 = .list ((lowB (l.take i)).map byteD) ∧ (s.room 3 = [.full] ∨ s.room 3 = [.own 5])) (fun s => l.length - slotI s 4) ?_ ?_
  · refine ⟨0, Nat.zero_le _, ?_, ?_, ?_, ?_⟩
    all_goals simp only [*, put_slot, put_room, dem_slot, entry_slot, ↓reduceIte, Nat.reduceEqDiff, reduceCtorEq, List.getD_cons_zero, List.take_zero, and_true, or_false, List.cons.injEq]
    all_goals rfl
  · rintro s K ⟨i, hi, h4, h0, h3, hrm⟩ hn hx hr
    by_cases hlt : i < l.length
    · obtain ⟨x, hxl, hxd⟩ := at_get hlt
      have hlt' : (i : Int) < l.length := by omega
      have hlen : (lowB (l.take i)).length = i := by simp [lowB]; omega
      have hxb := x.toNat_lt
      have hw : IntKind.i64.wrap (x.toNat : Int) = x.toNat := wrap64 _ (by omega) (by omega)
      have hs := rsmall_L (x.toNat : Int) (by omega) (by omega)
      have hc := lowC_I x
      have hfit : ((lowB (l.take i)).map byteD).length + 1 ≤ 1073741824 := by simp [hlen]; omega
      have hsz := szOk_bytes (lowB (l.take i))
      have hw1 : IntKind.i64.wrap ((i : Int) + 1) = ((i + 1 : Nat) : Int) := by rw [wrap64 _ (by omega) (by omega)]; omega
      have hnext : (lowB (l.take i)).map byteD ++ [.int .u8 (lowC x).toNat] = (lowB (l.take (i + 1))).map byteD := by
        rw [show l.take (i + 1) = l.take i ++ [x] from by rw [List.take_add_one, hxl]; rfl]
        simp [lowB, byteD]
      rcases hrm with hrm | hrm
      all_goals
        repeat' (first
    | simp only [*, go_nil, go_seq, go_cond, go_block, go_blk, go_skip, go_region, go_ops_nil, go_ops, okG_some, cwD_bool, gw_true, guardG, opG, isPtr, inB, sval, stake, eats, eaters, get, cval, cval1, St.taken, put_slot, put_room, dem_none, dem_slot, ↓reduceIte, Nat.reduceEqDiff, Nat.reduceLT, reduceCtorEq, decide_true, List.filterMap_cons, List.filterMap_nil, Option.map_some, List.getElem?_cons_zero, List.contains_cons, List.contains_nil, List.map_cons, List.map_nil, beq_self_eq_true, Bool.or_false, Bool.and_true, Nat.reduceBEq, Bool.false_eq_true, dbin, dIntBin, okR, callG, row9, frz9, frzOf_def, frz_nil, pureB, leaf, leafN, List.all_cons, List.all_nil, List.nil_append, List.append_nil, List.length_nil, List.length_cons, dcells, Nat.zero_add, Bool.and_false, Bool.false_and, and_true, Int.natCast_nonneg, Int.toNat_natCast, and_self, or_true, or_false, szOk_cons, List.cons.injEq, List.getElem?_toArray, ap22, bs22, len9, ix9, cv53, cv35]
    | (refine drW_intro (by kernel_rfl) ?_)
    | (refine gw_intro (fun h => ?_) (fun h => ?_) <;> (try simp only [beq_true, beq_false, Bool.not_eq_eq_eq_not, Bool.not_true, Bool.not_false, Bool.not_not, decide_eq_true_eq, decide_eq_false_iff_not, ge_iff_le, gt_iff_lt] at h)))
        refine hn _ ⟨i + 1, hlt, ?_, ?_, ?_, ?_⟩ ?_
        · simp only [*, put_slot, ↓reduceIte]
        · simp only [*, put_slot, dem_slot, ↓reduceIte, reduceCtorEq]
        · simp only [*, put_slot, dem_slot, ↓reduceIte, Nat.reduceEqDiff]
        · simp only [*, put_room, dem_room, ↓reduceIte, Nat.reduceEqDiff, reduceCtorEq, List.cons.injEq, and_true, or_true]
        · simp only [slotI, *, put_slot, ↓reduceIte, Int.toNat_natCast]
          omega
    · have hge : ¬ (i : Int) < l.length := by omega
      repeat' (first
    | simp only [*, go_nil, go_seq, go_cond, go_exit, go_xcode, go_region, go_ops_nil, go_ops, okG_some, cwD_bool, gw_false, guardG, opG, isPtr, inB, sval, stake, eats, eaters, get, St.taken, put_slot, dem_none, ↓reduceIte, Nat.reduceEqDiff, Nat.reduceLT, reduceCtorEq, decide_true, decide_false, List.filterMap_cons, List.filterMap_nil, Option.map_some, List.contains_cons, List.contains_nil, List.map_cons, List.map_nil, Bool.or_false, Nat.reduceBEq, Bool.false_eq_true, dbin, dIntBin, row9, frz9, frzOf_def, frz_nil, Bool.and_false, len9]
    | (refine drW_intro (by kernel_rfl) ?_)
    | (refine gw_intro (fun h => ?_) (fun h => ?_) <;> (try simp only [beq_true, beq_false, Bool.not_eq_eq_eq_not, Bool.not_true, Bool.not_false, Bool.not_not, decide_eq_true_eq, decide_eq_false_iff_not, ge_iff_le, gt_iff_lt] at h)))
      refine hx 0 _ ?_
      have hil : i = l.length := by omega
      subst hil
      rw [List.take_length] at h3
      have hby := bytes_of (lowB l)
      repeat' (first
    | simp only [*, go_seq, go_retc, go_xblk, go_region, go_ops_nil, go_ops, okG_some, guardG, opG, inB, sval, stake, eats, eaters, get, St.taken, put_slot, put_room, put_box, dem_none, dem_box, endQ, endR, endV, rvars, rvar, room1, ↓reduceIte, Nat.reduceEqDiff, Nat.reduceLT, decide_true, List.filterMap_cons, List.filterMap_nil, Option.map_some, List.contains_cons, List.contains_nil, List.map_nil, beq_self_eq_true, Bool.or_false, Nat.reduceBEq, Bool.false_eq_true, row9, frz9, frzOf_def, frz_nil, pureB, leaf, leafN, List.take_nil, List.range_zero, Bool.and_false, Bool.false_and, and_self, cv229]
    | (refine drW_intro (by kernel_rfl) ?_)
    | (refine gw_intro (fun h => ?_) (fun h => ?_) <;> (try simp only [beq_true, beq_false, Bool.not_eq_eq_eq_not, Bool.not_true, Bool.not_false, Bool.not_not, decide_eq_true_eq, decide_eq_false_iff_not, ge_iff_le, gt_iff_lt] at h)))
end Go.Av
/- Chapter 19: the document's tokenizer: names, functions, urls. -/
set_option linter.unusedSimpArgs false
set_option linter.unusedVariables false
set_option linter.unusedSectionVars false
set_option maxRecDepth 100000
namespace Go.Av
open Go.Proofs Go.Proofs.Ytaldmffahmomoaa Go.RowKit
theorem namesN_pos {l : List Int} : ∀ (k a : Nat) (acc : List Int), a ≤ (namesN l k a acc).2 ∧ (a ≤ l.length → (namesN l k a acc).2 ≤ l.length) ∧ (namesN l k a acc).1.length + a ≤ acc.length + (namesN l k a acc).2
  | 0, a, acc => by simp [namesN]
  | k + 1, a, acc => by
    unfold namesN
    split
    · rename_i h1
      have hl := atB_lt h1
      have := namesN_pos (l := l) k (a + 1) (acc ++ [l.getD a 0])
      simp only [List.length_append, List.length_cons, List.length_nil] at this
      omega
    · split
      · rename_i h1
        have hl := escB_lt h1
        have hv := val_pos hl
        have := namesN_pos (l := l) k (valF l a).2 (acc ++ [(valF l a).1])
        simp only [List.length_append, List.length_cons, List.length_nil] at this
        omega
      · simp
theorem namesF_pos {l : List Int} {a : Nat} (h : a ≤ l.length) : a ≤ (namesF l a).2 ∧ (namesF l a).2 ≤ l.length ∧ (namesF l a).1.length + a ≤ (namesF l a).2 := by
  have := namesN_pos (l := l) (l.length - a) a []
  unfold namesF
  simp at this
  omega
theorem textS_length (l : List Int) : (textS l).length ≤ 4 * l.length := by
  have := textOf_length (l.map fz)
  unfold textS
  rw [nb_length]
  simpa using this
def urlT : List UInt8 := [117, 114, 108]
def calledF (l : List Int) (a : Nat) : Tk :=
  if isC l (namesF l a).2 40 then
    (if lowB (textS (namesF l a).1) == urlT && !isC l (spRun l ((namesF l a).2 + 1)) 34 && !isC l (spRun l ((namesF l a).2 + 1)) 39 then urlF l a (spRun l ((namesF l a).2 + 1)) else ⟨2, a, (namesF l a).2 + 1, textS (namesF l a).1, [], false⟩)
  else ⟨1, a, (namesF l a).2, textS (namesF l a).1, [], false⟩
set_option maxHeartbeats 8000000 in
theorem called_L {l : List Int} (h : CL l) (a : Nat) (ha : a ≤ l.length) : callL Try.prog ext9 55 [LI l, .int .i64 a] [] = some ((calledF l a).d, [.no], []) := by
  have hl := h.len
  have lN := LIlen l
  have hM := names_L h a ha
  obtain ⟨p1, p2, p3⟩ := namesF_pos ha
  have hP := is_L h (namesF l a).2 40
  have hw := w1 (namesF l a).2 (by omega)
  have htl := textS_length (namesF l a).1
  obtain ⟨rl, hLw⟩ := rlower_L (textS (namesF l a).1) (by omega)
  refine callK (m := 53) (res := []) (rs := [.cell 4 56]) rfl Try.func55 rfl rfl rfl rfl rfl ?_
  cases h1 : isC l (namesF l a).2 40 with
  | false =>
    have hF : calledF l a = ⟨1, a, (namesF l a).2, textS (namesF l a).1, [], false⟩ := by unfold calledF; rw [h1, if_neg (by simp)]
    rw [hF]
    rw [h1] at hP
    unfold Tk.d tkD
    clear hF h1 h htl hLw
    generalize textS (namesF l a).1 = s at *
    generalize (namesF l a).2 = e at *
    repeat' (first
    | simp only [*, go_seq, go_cond, go_retc, go_region, go_ops_nil, go_ops, okG_some, okB_some, cwD_bool, gw_true, guardG, opG, isPtr, inB, sval, stake, eats, eaters, get, cval, cval1, St.taken, put_slot, put_room, put_box, put_none, dem_none, dem_slot, dem_box, dem_room, dem_room1, setBox_slot, setBox_room, setBox_box, entry_slot, entry_box, entry_ctr, endQ, endR, endV, rvars, rvar, room1, ↓reduceIte, Nat.reduceEqDiff, Nat.reduceLT, Nat.reduceLeDiff, reduceCtorEq, decide_true, List.filterMap_cons, List.filterMap_nil, Option.map_some, List.getElem?_cons_zero, List.getElem?_cons_succ, List.getD_cons_zero, List.getD_cons_succ, List.contains_cons, List.contains_nil, List.map_cons, List.map_nil, beq_self_eq_true, Bool.or_false, Bool.or_true, Bool.and_true, Nat.reduceBEq, Bool.false_eq_true, okR, callG, row9, frz9, frzOf_def, frz_nil, Bool.not_false, pureB, leaf, leafN, List.all_cons, List.all_nil, List.nil_append, List.append_nil, List.range_zero, List.length_nil, List.length_cons, dun, List.getElem?_nil, List.take_zero, List.drop_zero, List.drop_succ_cons, dcells, Nat.zero_add, Nat.reduceAdd, stepBox, Bool.and_false, and_self, ty56, dp56, zr56, bd56_0123]
    | (refine drW_intro (by kernel_rfl) ?_)
    | (refine gw_intro (fun h => ?_) (fun h => ?_) <;> (try simp only [beq_true, beq_false, Bool.not_eq_eq_eq_not, Bool.not_true, Bool.not_false, Bool.not_not, decide_eq_true_eq, decide_eq_false_iff_not, ge_iff_le, gt_iff_lt] at h)))
  | true =>
    have hlt := isC_lt h1
    have hF : calledF l a = (if lowB (textS (namesF l a).1) == urlT && !isC l (spRun l ((namesF l a).2 + 1)) 34 && !isC l (spRun l ((namesF l a).2 + 1)) 39 then urlF l a (spRun l ((namesF l a).2 + 1)) else ⟨2, a, (namesF l a).2 + 1, textS (namesF l a).1, [], false⟩) := by unfold calledF; rw [h1, if_pos rfl]
    rw [hF]
    rw [h1] at hP
    clear hF h1 htl p3
    generalize textS (namesF l a).1 = s at *
    generalize (namesF l a).2 = e at *
    obtain ⟨kk, hkk⟩ : ∃ k, Hid (spRun l (e + 1) = k) := ⟨_, rfl⟩
    have hkp := runF_pos (p := atB spC l) (n := l.length) (a := e + 1)
    have hkl : kk ≤ l.length := by rw [← hkk.out]; unfold spRun; omega
    rw [hkk.out]
    have hU := url_L h a kk hkl
    have i34 := is_L h kk 34
    have i39 := is_L h kk 39
    generalize urlF l a kk = U at *
    have hkk' : Hd (spRun l (e + 1) = kk) := hkk.out
    clear hkk hkp
    repeat' (first
    | simp only [*, go_seq, go_cond, go_block, go_skip, go_loop, go_region, go_ops_nil, go_ops, okG_some, okB_some, cwD_bool, gw_false, guardG, opG, isPtr, inB, sval, stake, eats, eaters, get, cval, cval1, St.taken, put_slot, put_room, dem_none, dem_slot, dem_room, dem_room1, setBox_slot, setBox_room, entry_slot, entry_ctr, ↓reduceIte, Nat.reduceEqDiff, Nat.reduceLT, reduceCtorEq, decide_true, List.filterMap_cons, List.filterMap_nil, Option.map_some, List.getElem?_cons_zero, List.getElem?_cons_succ, List.getD_cons_zero, List.getD_cons_succ, List.contains_cons, List.contains_nil, List.map_cons, List.map_nil, beq_self_eq_true, Bool.or_false, Bool.or_true, Bool.and_true, Nat.reduceBEq, Bool.false_eq_true, dbin, dIntBin, okR, callG, row9, frz9, frzOf_def, frz_nil, Bool.not_true, pureB, leaf, leafN, List.all_cons, List.all_nil, List.nil_append, List.append_nil, List.length_nil, dun, Nat.reduceAdd, stepBox, Bool.and_false, and_self, zr56]
    | (refine drW_intro (by kernel_rfl) ?_)
    | (refine gw_intro (fun h => ?_) (fun h => ?_) <;> (try simp only [beq_true, beq_false, Bool.not_eq_eq_eq_not, Bool.not_true, Bool.not_false, Bool.not_not, decide_eq_true_eq, decide_eq_false_iff_not, ge_iff_le, gt_iff_lt] at h)))
    refine loopH (fun st => ∃ k : Nat, k ≤ l.length ∧ st.slot 0 = LI l ∧ st.slot 1 = .int .i64 a ∧ st.slot 4 = .ptr 4 1 0 ∧ st.box 4 = some ⟨1, [.int .i64 0, .int .i64 0, .int .i64 0, .str [], .str [], .bool false]⟩ ∧ st.slot 5 = .str s ∧ st.slot 6 = .int .i64 e ∧ st.slot 7 = .int .i64 k ∧ Hd (spRun l k = kk)) (fun st => l.length - slotI st 7) ?_ ?_
    · refine ⟨e + 1, hlt, ?_, ?_, ?_, ?_, ?_, ?_, ?_, hkk'⟩ <;> first | (simp only [*, put_slot, put_box, dem_slot, dem_box, setBox_box, entry_slot, ↓reduceIte, Nat.reduceEqDiff, reduceCtorEq, List.getD_cons_zero, List.getD_cons_succ]; done) | (simp only [*, go_nil, go_seq, go_cond, go_block, go_blk, go_skip, go_exit, go_retc, go_xcode, go_xblk, go_loop, go_region, go_draw, go_ops_nil, go_dops_nil, go_ops, go_dops1, go_dops, okG_some, okB_some, gwD_bool, gwD_undef, cwD_bool, gw_true, gw_false, guardG_none, guardG, opG, opD, isPtr, isStore, inB, sval, stake, eats, eaters, get, cval, cval1, croom, St.taken, put_slot, put_room, put_box, put_ctr, put_none, dem_none, dem_slot, dem_box, dem_ctr, dem_room, dem_room1, setBox_slot, setBox_room, setBox_ctr, setBox_box, entry_slot, entry_room, entry_box, entry_ctr, endQ, endR, endV, rvars, rvar, room1, ↓reduceIte, Nat.reduceEqDiff, Nat.reduceLT, Nat.reduceLeDiff, reduceCtorEq, decide_true, decide_false, List.filterMap_cons, List.filterMap_nil, Option.bind_some, Option.map_some, Option.bind_none, Option.map_none, List.getElem?_cons_zero, List.getElem?_cons_succ, List.getD_cons_zero, List.getD_cons_succ, List.contains_cons, List.contains_nil, List.map_cons, List.map_nil, beq_self_eq_true, beq_iff_eq, Bool.or_false, Bool.false_or, Bool.or_true, Bool.true_or, Bool.and_true, Bool.true_and, Nat.reduceBEq, Bool.false_eq_true, dbin, dIntBin, okR, callG, endN, newV, row9, frz9, frzOf_def, frz_nil, frz_cons, frzD, rowList, rowElem, stepRow, madeRow, isLocal, allocKey, isAlloc, loadsOwn, ptrAt, beq_true, beq_false, Bool.not_true, Bool.not_false, pureB, leaf, leafN, List.all_cons, List.all_nil, List.nil_append, List.cons_append, List.append_nil, List.take_nil, List.range_zero, List.length_nil, List.length_cons, String.reduceBEq, Bool.true_beq, Bool.false_beq, List.find?_cons, List.find?_nil, dun, List.getElem?_nil, List.take_zero, List.drop_zero, List.take_succ_cons, List.drop_succ_cons, dcells, Nat.zero_add, Nat.reduceAdd, Nat.reduceSub, Nat.reduceMul, stepBox, Bool.and_false, Bool.false_and, and_true, true_and, List.zipWith, Option.getD_some, List.singleton_append, List.map_map, Int.natCast_nonneg, Int.toNat_natCast, and_self, Nat.mul_one, Nat.add_zero, if_true, St.freeze, false_or, or_true, true_or, or_false, szOk_cons, szOk_nil, List.cons.injEq, false_and, and_false, forall_const, List.getElem?_toArray, List.getElem_toArray, dopt, dbound, ge_iff_le, gt_iff_lt, dStrBin, List.take_length, plainR_s, Int.reduceLE, Int.reduceLT, Int.reduceToNat, Int.reduceBEq, Int.reduceBNe, ty3, ty4, ty5, ty9, dp3, dp4, dp5, dp9, ty22, ia22, len22, ap22, sl22, bs22e, ty44, ia44, len44, ap44, sl44, bs44e, ty62, ia62, len62, ap62, sl62, bs62e, bs22, bs22_2, bs22_3, bs22_4, bs44, ty56, dp56, fa56_0, fp56_0, fa56_1, fp56_1, fa56_2, fp56_2, fa56_3, fp56_3, fa56_4, fp56_4, fa56_5, fp56_5, zr56, ty24, ia24, len24, ap24, bs24e, bs24, ty32, dp32, fa32_0, fp32_0, fa32_1, fp32_1, fa32_2, fp32_2, fa32_3, fp32_3, fa32_4, fp32_4, fa32_5, fp32_5, fa32_6, fp32_6, zr32, ty26, ia26, len26, ap26, bs26e, bs26, ty41, dp41, fa41_0, fp41_0, fa41_1, fp41_1, fa41_2, fp41_2, fa41_3, fp41_3, zr41, ty35, ia35, len35, ap35, bs35e, bs35, bd56_012, bd56_0123, bd56_01235, bd56_01, bd56_01245, bd32_24, bd32_012, bd32_, bd32_243, bd41_, bd41_0, ty51, fp51_0, fp51_1, fp51_2, bd51, dp24, ia22r, len22r, len9, ix9, sl9, cv53, cv35, cv922, cv229]; rfl)
    · rintro st K ⟨k, hkl2, s0, s1, s4, b4, s5, s6, s7, hinv⟩ hn hx hr
      have hsp := space_L h k
      have hwk := w1 k (by omega)
      cases hc : atB spC l k with
      | true =>
        have hlt2 := atB_lt hc
        have T : Hd (spRun l (k + 1) = kk) := by
          have h1 : spRun l k = kk := hinv
          unfold spRun at *
          rw [runF_step sp_end hc] at h1
          exact h1
        rw [hc] at hsp
        clear hinv h hr hx hU i34 i39 hkk'
        repeat' (first
    | simp only [*, go_nil, go_seq, go_cond, go_block, go_blk, go_skip, go_region, go_ops_nil, go_ops, okG_some, cwD_bool, gw_true, guardG, opG, isPtr, inB, sval, stake, eats, eaters, get, cval, cval1, St.taken, put_slot, put_room, dem_none, ↓reduceIte, Nat.reduceEqDiff, Nat.reduceLT, decide_true, List.filterMap_cons, List.filterMap_nil, Option.map_some, List.contains_nil, List.map_cons, List.map_nil, Bool.and_true, Nat.reduceBEq, Bool.false_eq_true, dbin, dIntBin, okR, callG, row9, frz9, frzOf_def, frz_nil, pureB, leaf, leafN, List.all_cons, List.all_nil, List.nil_append, List.append_nil, Bool.and_false]
    | (refine drW_intro (by kernel_rfl) ?_)
    | (refine gw_intro (fun h => ?_) (fun h => ?_) <;> (try simp only [beq_true, beq_false, Bool.not_eq_eq_eq_not, Bool.not_true, Bool.not_false, Bool.not_not, decide_eq_true_eq, decide_eq_false_iff_not, ge_iff_le, gt_iff_lt] at h)))
        refine hn _ ⟨k + 1, hlt2, ?_, ?_, ?_, ?_, ?_, ?_, ?_, T⟩ ?_
        all_goals first | (simp only [*, put_slot, put_box, dem_slot, dem_box, ↓reduceIte, Nat.reduceEqDiff, reduceCtorEq]; done) | (simp only [slotI, *, put_slot, ↓reduceIte]; omega)
      | false =>
        have hrun : k = kk := by
          have h1 : spRun l k = kk := hinv
          rw [← h1]
          exact (runF_stop hc).symm
        subst hrun
        rw [hc] at hsp
        clear hinv hn h hkk' hM
        cases hu : (lowB s == urlT) with
        | false =>
          have hu' : (lowB s == [117, 114, 108]) = false := hu
          rw [hu, if_neg (by simp)] at hx hr
          unfold Tk.d tkD at hx hr
          clear hU i34 i39 hu
          repeat' (first
    | simp only [*, go_nil, go_seq, go_cond, go_exit, go_xcode, go_region, go_ops_nil, go_ops, okG_some, cwD_bool, gw_false, guardG, opG, isPtr, inB, sval, stake, eats, eaters, get, St.taken, put_slot, dem_none, ↓reduceIte, Nat.reduceEqDiff, Nat.reduceLT, decide_true, List.filterMap_cons, List.filterMap_nil, List.contains_nil, List.map_cons, List.map_nil, Bool.and_true, Nat.reduceBEq, Bool.false_eq_true, okR, callG, row9, frz9, frzOf_def, frz_nil, pureB, leaf, leafN, List.all_cons, List.all_nil, List.nil_append, List.append_nil, Bool.and_false]
    | (refine drW_intro (by kernel_rfl) ?_)
    | (refine gw_intro (fun h => ?_) (fun h => ?_) <;> (try simp only [beq_true, beq_false, Bool.not_eq_eq_eq_not, Bool.not_true, Bool.not_false, Bool.not_not, decide_eq_true_eq, decide_eq_false_iff_not, ge_iff_le, gt_iff_lt] at h)))
          refine hx _ _ ?_
          repeat' (first
    | simp only [*, go_seq, go_cond, go_skip, go_retc, go_xblk, go_region, go_ops_nil, go_ops, okG_some, okB_some, gwD_bool, cwD_bool, gw_false, guardG, opG, isPtr, inB, sval, stake, eats, eaters, get, cval, cval1, croom, St.taken, put_slot, put_room, put_box, put_none, dem_none, setBox_slot, setBox_room, setBox_box, endQ, endR, endV, rvars, rvar, room1, ↓reduceIte, Nat.reduceEqDiff, Nat.reduceLT, Nat.reduceLeDiff, decide_true, List.filterMap_cons, List.filterMap_nil, Option.bind_some, Option.map_some, List.getElem?_cons_zero, List.getElem?_cons_succ, List.contains_nil, List.map_cons, List.map_nil, Bool.and_true, Nat.reduceBEq, Bool.false_eq_true, dbin, dIntBin, okR, callG, row9, frz9, frzOf_def, frz_nil, beq_true, pureB, leaf, leafN, List.all_cons, List.all_nil, List.nil_append, List.append_nil, List.range_zero, List.length_nil, List.length_cons, dun, List.take_zero, List.drop_zero, List.drop_succ_cons, dcells, Nat.zero_add, Nat.reduceAdd, stepBox, Bool.and_false, and_self, dStrBin, ty56, dp56, bd56_0123]
    | (refine drW_intro (by kernel_rfl) ?_)
    | (refine gw_intro (fun h => ?_) (fun h => ?_) <;> (try simp only [beq_true, beq_false, Bool.not_eq_eq_eq_not, Bool.not_true, Bool.not_false, Bool.not_not, decide_eq_true_eq, decide_eq_false_iff_not, ge_iff_le, gt_iff_lt] at h)))
        | true =>
          have hu' : (lowB s == [117, 114, 108]) = true := hu
          cases h34 : isC l k 34 with
          | true =>
            rw [hu, h34, if_neg (by simp)] at hx hr
            rw [h34] at i34
            unfold Tk.d tkD at hx hr
            clear hU i39 hu
            repeat' (first
    | simp only [*, go_nil, go_seq, go_cond, go_exit, go_xcode, go_region, go_ops_nil, go_ops, okG_some, cwD_bool, gw_false, guardG, opG, isPtr, inB, sval, stake, eats, eaters, get, St.taken, put_slot, dem_none, ↓reduceIte, Nat.reduceEqDiff, Nat.reduceLT, decide_true, List.filterMap_cons, List.filterMap_nil, List.contains_nil, List.map_cons, List.map_nil, Bool.and_true, Nat.reduceBEq, Bool.false_eq_true, okR, callG, row9, frz9, frzOf_def, frz_nil, pureB, leaf, leafN, List.all_cons, List.all_nil, List.nil_append, List.append_nil, Bool.and_false]
    | (refine drW_intro (by kernel_rfl) ?_)
    | (refine gw_intro (fun h => ?_) (fun h => ?_) <;> (try simp only [beq_true, beq_false, Bool.not_eq_eq_eq_not, Bool.not_true, Bool.not_false, Bool.not_not, decide_eq_true_eq, decide_eq_false_iff_not, ge_iff_le, gt_iff_lt] at h)))
            refine hx _ _ ?_
            repeat' (first
    | simp only [*, go_seq, go_cond, go_skip, go_retc, go_xblk, go_region, go_ops_nil, go_ops, okG_some, okB_some, gwD_bool, cwD_bool, gw_true, gw_false, guardG, opG, isPtr, inB, sval, stake, eats, eaters, get, cval, cval1, croom, St.taken, put_slot, put_room, put_box, put_none, dem_none, setBox_slot, setBox_room, setBox_box, endQ, endR, endV, rvars, rvar, room1, ↓reduceIte, Nat.reduceEqDiff, Nat.reduceLT, Nat.reduceLeDiff, reduceCtorEq, decide_true, List.filterMap_cons, List.filterMap_nil, Option.bind_some, Option.map_some, List.getElem?_cons_zero, List.getElem?_cons_succ, List.contains_nil, List.map_cons, List.map_nil, beq_self_eq_true, Bool.and_true, Nat.reduceBEq, Bool.false_eq_true, dbin, dIntBin, okR, callG, row9, frz9, frzOf_def, frz_nil, beq_true, Bool.not_true, pureB, leaf, leafN, List.all_cons, List.all_nil, List.nil_append, List.append_nil, List.range_zero, List.length_nil, List.length_cons, dun, List.take_zero, List.drop_zero, List.drop_succ_cons, dcells, Nat.zero_add, Nat.reduceAdd, stepBox, Bool.and_false, and_self, dStrBin, ty56, dp56, bd56_0123]
    | (refine drW_intro (by kernel_rfl) ?_)
    | (refine gw_intro (fun h => ?_) (fun h => ?_) <;> (try simp only [beq_true, beq_false, Bool.not_eq_eq_eq_not, Bool.not_true, Bool.not_false, Bool.not_not, decide_eq_true_eq, decide_eq_false_iff_not, ge_iff_le, gt_iff_lt] at h)))
          | false =>
            cases h39 : isC l k 39 with
            | true =>
              rw [hu, h34, h39, if_neg (by simp)] at hx hr
              rw [h34] at i34
              rw [h39] at i39
              unfold Tk.d tkD at hx hr
              clear hU hu
              repeat' (first
    | simp only [*, go_nil, go_seq, go_cond, go_exit, go_xcode, go_region, go_ops_nil, go_ops, okG_some, cwD_bool, gw_false, guardG, opG, isPtr, inB, sval, stake, eats, eaters, get, St.taken, put_slot, dem_none, ↓reduceIte, Nat.reduceEqDiff, Nat.reduceLT, decide_true, List.filterMap_cons, List.filterMap_nil, List.contains_nil, List.map_cons, List.map_nil, Bool.and_true, Nat.reduceBEq, Bool.false_eq_true, okR, callG, row9, frz9, frzOf_def, frz_nil, pureB, leaf, leafN, List.all_cons, List.all_nil, List.nil_append, List.append_nil, Bool.and_false]
    | (refine drW_intro (by kernel_rfl) ?_)
    | (refine gw_intro (fun h => ?_) (fun h => ?_) <;> (try simp only [beq_true, beq_false, Bool.not_eq_eq_eq_not, Bool.not_true, Bool.not_false, Bool.not_not, decide_eq_true_eq, decide_eq_false_iff_not, ge_iff_le, gt_iff_lt] at h)))
              refine hx _ _ ?_
              repeat' (first
    | simp only [*, go_seq, go_cond, go_skip, go_retc, go_xblk, go_region, go_ops_nil, go_ops, okG_some, okB_some, gwD_bool, cwD_bool, gw_true, gw_false, guardG, opG, isPtr, inB, sval, stake, eats, eaters, get, cval, cval1, croom, St.taken, put_slot, put_room, put_box, put_none, dem_none, setBox_slot, setBox_room, setBox_box, endQ, endR, endV, rvars, rvar, room1, ↓reduceIte, Nat.reduceEqDiff, Nat.reduceLT, Nat.reduceLeDiff, reduceCtorEq, decide_true, List.filterMap_cons, List.filterMap_nil, Option.bind_some, Option.map_some, List.getElem?_cons_zero, List.getElem?_cons_succ, List.contains_nil, List.map_cons, List.map_nil, beq_self_eq_true, Bool.and_true, Nat.reduceBEq, Bool.false_eq_true, dbin, dIntBin, okR, callG, row9, frz9, frzOf_def, frz_nil, Bool.not_true, Bool.not_false, pureB, leaf, leafN, List.all_cons, List.all_nil, List.nil_append, List.append_nil, List.range_zero, List.length_nil, List.length_cons, dun, List.take_zero, List.drop_zero, List.drop_succ_cons, dcells, Nat.zero_add, Nat.reduceAdd, stepBox, Bool.and_false, and_self, dStrBin, ty56, dp56, bd56_0123]
    | (refine drW_intro (by kernel_rfl) ?_)
    | (refine gw_intro (fun h => ?_) (fun h => ?_) <;> (try simp only [beq_true, beq_false, Bool.not_eq_eq_eq_not, Bool.not_true, Bool.not_false, Bool.not_not, decide_eq_true_eq, decide_eq_false_iff_not, ge_iff_le, gt_iff_lt] at h)))
            | false =>
              rw [hu, h34, h39, if_pos (by rfl)] at hx hr
              rw [h34] at i34
              rw [h39] at i39
              unfold Tk.d tkD at *
              clear hu
              obtain ⟨uk, ua, ub, us, un, uw⟩ := U
              repeat' (first
    | simp only [*, go_nil, go_seq, go_cond, go_exit, go_xcode, go_region, go_ops_nil, go_ops, okG_some, cwD_bool, gw_false, guardG, opG, isPtr, inB, sval, stake, eats, eaters, get, St.taken, put_slot, dem_none, ↓reduceIte, Nat.reduceEqDiff, Nat.reduceLT, decide_true, List.filterMap_cons, List.filterMap_nil, List.contains_nil, List.map_cons, List.map_nil, Bool.and_true, Nat.reduceBEq, Bool.false_eq_true, okR, callG, row9, frz9, frzOf_def, frz_nil, pureB, leaf, leafN, List.all_cons, List.all_nil, List.nil_append, List.append_nil, Bool.and_false]
    | (refine drW_intro (by kernel_rfl) ?_)
    | (refine gw_intro (fun h => ?_) (fun h => ?_) <;> (try simp only [beq_true, beq_false, Bool.not_eq_eq_eq_not, Bool.not_true, Bool.not_false, Bool.not_not, decide_eq_true_eq, decide_eq_false_iff_not, ge_iff_le, gt_iff_lt] at h)))
              refine hx _ _ ?_
              repeat' (first
    | simp only [*, go_seq, go_cond, go_retc, go_xblk, go_region, go_ops_nil, go_ops, okG_some, okB_some, gwD_bool, cwD_bool, gw_true, guardG, opG, isPtr, inB, sval, stake, eats, eaters, get, cval, cval1, croom, St.taken, put_slot, put_room, put_box, put_none, dem_none, setBox_slot, setBox_room, setBox_box, endQ, endR, endV, rvars, rvar, room1, ↓reduceIte, Nat.reduceEqDiff, Nat.reduceLT, Nat.reduceLeDiff, reduceCtorEq, decide_true, List.filterMap_cons, List.filterMap_nil, Option.bind_some, Option.map_some, List.getElem?_cons_zero, List.getElem?_cons_succ, List.contains_nil, List.map_cons, List.map_nil, beq_self_eq_true, Bool.and_true, Nat.reduceBEq, Bool.false_eq_true, dbin, okR, callG, row9, frz9, frzOf_def, frz_nil, Bool.not_false, pureB, leaf, leafN, List.all_cons, List.all_nil, List.nil_append, List.append_nil, List.range_zero, List.length_nil, List.length_cons, dun, List.take_zero, List.drop_zero, List.drop_succ_cons, dcells, Nat.zero_add, Nat.reduceAdd, stepBox, Bool.and_false, and_self, dStrBin, ty56, dp56]
    | (refine drW_intro (by kernel_rfl) ?_)
    | (refine gw_intro (fun h => ?_) (fun h => ?_) <;> (try simp only [beq_true, beq_false, Bool.not_eq_eq_eq_not, Bool.not_true, Bool.not_false, Bool.not_not, decide_eq_true_eq, decide_eq_false_iff_not, ge_iff_le, gt_iff_lt] at h)))
end Go.Av
/- Chapter 19: the document's tokenizer: the token at a place. -/
set_option linter.unusedSimpArgs false
set_option linter.unusedVariables false
set_option linter.unusedSectionVars false
set_option maxRecDepth 100000
namespace Go.Av
open Go.Proofs Go.Proofs.Ytaldmffahmomoaa Go.RowKit
def sgS : List UInt8 := [40, 41, 91, 93, 123, 125, 44, 58, 59]
def kdS : List Int := [21, 22, 19, 20, 23, 24, 18, 16, 17]
def sgFrom (c : Int) : Nat → Nat → Option Nat
  | 0, _ => none
  | n + 1, k => if ((sgS.getD k 0).toNat : Int) = c then some k else sgFrom c n (k + 1)
def signTk (c : Int) (i : Nat) : Tk := match sgFrom c 9 0 with
  | some k => ⟨kdS.getD k 0, i, i + 1, [], [], false⟩
  | none => ⟨9, i, i + 1, textS [c], [], false⟩
def nextB (s q34 q39 nu c45 d1 d2 na c60 f1 f2 f3 c64 na1 c35 in1 es1 : Bool) (tSp tQ tNu tCDC tCa tCDO tAt tHash tSign : Tk) : Tk :=
  if s then tSp else if q34 || q39 then tQ else if nu then tNu else if c45 && d1 && d2 then tCDC else if na then tCa else if c60 && f1 && f2 && f3 then tCDO else if c64 && na1 then tAt else if c35 && (in1 || es1) then tHash else tSign
def nextC (l : List Int) (i : Nat) (c : Int) : Tk :=
  nextB (spC c) (c == 34) (c == 39) (numB l i) (c == 45) (isC l (i + 1) 45) (isC l (i + 2) 62) (nameB l i) (c == 60) (isC l (i + 1) 33) (isC l (i + 2) 45) (isC l (i + 3) 45) (c == 64) (nameB l (i + 1)) (c == 35) (atB nmC l (i + 1)) (escB l (i + 1))
    ⟨13, i, spRun l i, [], [], false⟩ (quotedF l i) (numericF l i) ⟨15, i, i + 3, [], [], false⟩ (calledF l i) ⟨14, i, i + 4, [], [], false⟩ ⟨3, i, (namesF l (i + 1)).2, textS (namesF l (i + 1)).1, [], false⟩
    ⟨4, i, (namesF l (i + 1)).2, textS (namesF l (i + 1)).1, [], nameB l (i + 1)⟩ (signTk c i)
/-- The token at a place. -/
def nextF (l : List Int) (a : Nat) : Tk := if l.length ≤ behF l a then ⟨0, l.length, l.length, [], [], false⟩ else nextC l (behF l a) (l.getD (behF l a) 0)
theorem w3 (a : Nat) (h : a ≤ 200000) : IntKind.i64.wrap ((a : Int) + 3) = ((a + 3 : Nat) : Int) := by rw [wrap64 _ (by omega) (by omega)]; omega
theorem w4' (a : Nat) (h : a ≤ 200000) : IntKind.i64.wrap ((a : Int) + 4) = ((a + 4 : Nat) : Int) := by rw [wrap64 _ (by omega) (by omega)]; omega
theorem excl (c : Int) : ((c == 45) = true ∧ (c == 60) = false ∧ (c == 64) = false ∧ (c == 35) = false) ∨ ((c == 45) = false ∧ (c == 60) = true ∧ (c == 64) = false ∧ (c == 35) = false) ∨ ((c == 45) = false ∧ (c == 60) = false ∧ (c == 64) = true ∧ (c == 35) = false) ∨
    ((c == 45) = false ∧ (c == 60) = false ∧ (c == 64) = false ∧ (c == 35) = true) ∨ ((c == 45) = false ∧ (c == 60) = false ∧ (c == 64) = false ∧ (c == 35) = false) := by
  simp only [beq_iff_eq, beq_eq_false_iff_ne]
  omega
/-- Which way the tests go. -/
theorem ways {c45 d1 d2 c60 f1 f2 f3 c64 na1 c35 in1 es1 : Bool} (h : (c45 = true ∧ c60 = false ∧ c64 = false ∧ c35 = false) ∨ (c45 = false ∧ c60 = true ∧ c64 = false ∧ c35 = false) ∨ (c45 = false ∧ c60 = false ∧ c64 = true ∧ c35 = false) ∨
    (c45 = false ∧ c60 = false ∧ c64 = false ∧ c35 = true) ∨ (c45 = false ∧ c60 = false ∧ c64 = false ∧ c35 = false)) :
    ((c45 = true ∧ c60 = false ∧ c64 = false ∧ c35 = false) ∧ ((d1 = true ∧ d2 = true) ∨ d1 = false ∨ (d1 = true ∧ d2 = false))) ∨
    ((c45 = false ∧ c60 = true ∧ c64 = false ∧ c35 = false) ∧ ((f1 = true ∧ f2 = true ∧ f3 = true) ∨ f1 = false ∨ (f1 = true ∧ f2 = false) ∨ (f1 = true ∧ f2 = true ∧ f3 = false))) ∨
    ((c45 = false ∧ c60 = false ∧ c64 = true ∧ c35 = false) ∧ (na1 = true ∨ na1 = false)) ∨
    ((c45 = false ∧ c60 = false ∧ c64 = false ∧ c35 = true) ∧ (in1 = true ∨ (in1 = false ∧ es1 = true) ∨ (in1 = false ∧ es1 = false))) ∨
    (c45 = false ∧ c60 = false ∧ c64 = false ∧ c35 = false) := by
  rcases h with h | h | h | h | h
  · exact .inl ⟨h, by cases d1 <;> cases d2 <;> simp⟩
  · exact .inr (.inl ⟨h, by cases f1 <;> cases f2 <;> cases f3 <;> simp⟩)
  · exact .inr (.inr (.inl ⟨h, by cases na1 <;> simp⟩))
  · exact .inr (.inr (.inr (.inl ⟨h, by cases in1 <;> cases es1 <;> simp⟩)))
  · exact .inr (.inr (.inr (.inr h)))
theorem bs44_9 : dbuildSlice Try.prog 44 9 [(0, .int .i64 21), (1, .int .i64 22), (2, .int .i64 19), (3, .int .i64 20), (4, .int .i64 23), (5, .int .i64 24), (6, .int .i64 18), (7, .int .i64 16), (8, .int .i64 17)] = some (LI kdS) := by kernel_rfl
set_option maxHeartbeats 16000000 in
theorem next_L {l : List Int} (h : CL l) (a : Nat) (ha : a ≤ l.length) : callL Try.prog ext9 39 [LI l, .int .i64 a] [] = some ((nextF l a).d, [.no], []) := by
  have hl := h.len
  have lN := LIlen l
  have hB := beh_L h a ha
  obtain ⟨p1, p2⟩ := behF_pos (l := l) (a := a)
  have p3 := p2 ha
  have a0 : ¬ (a : Int) < 0 := by omega
  have a1 : ¬ (a : Int) > l.length := by omega
  unfold nextF
  generalize behF l a = i at *
  refine callK (m := 192) (res := []) (rs := [.cell 4 56]) rfl Try.func39 rfl rfl rfl rfl rfl ?_
  by_cases hil : l.length ≤ i
  · rw [if_pos hil]
    have g1 : (i : Int) ≥ l.length := by omega
    unfold Tk.d tkD
    clear h hil
    repeat' (first
    | simp only [*, go_seq, go_cond, go_skip, go_retc, go_region, go_ops_nil, go_ops, okG_some, okB_some, cwD_bool, gw_true, gw_false, guardG, opG, isPtr, inB, sval, stake, eats, eaters, get, cval, cval1, St.taken, put_slot, put_room, put_box, put_none, dem_none, dem_slot, dem_box, setBox_slot, setBox_room, setBox_box, entry_slot, entry_box, entry_ctr, endQ, endR, endV, rvars, rvar, room1, ↓reduceIte, Nat.reduceEqDiff, Nat.reduceLT, Nat.reduceLeDiff, reduceCtorEq, decide_true, decide_false, List.filterMap_cons, List.filterMap_nil, Option.map_some, List.getD_cons_zero, List.getD_cons_succ, List.contains_nil, List.map_cons, List.map_nil, beq_self_eq_true, Bool.and_true, Nat.reduceBEq, Bool.false_eq_true, dbin, dIntBin, okR, callG, row9, frz9, frzOf_def, frz_nil, pureB, leaf, leafN, List.all_cons, List.all_nil, List.nil_append, List.append_nil, List.range_zero, List.length_nil, List.length_cons, List.getElem?_nil, List.take_zero, List.drop_zero, List.drop_succ_cons, dcells, Nat.zero_add, Nat.reduceAdd, stepBox, Bool.and_false, and_self, ge_iff_le, gt_iff_lt, len44, ty56, dp56, zr56, bd56_012]
    | (refine drW_intro (by kernel_rfl) ?_)
    | (refine gw_intro (fun h => ?_) (fun h => ?_) <;> (try simp only [beq_true, beq_false, Bool.not_eq_eq_eq_not, Bool.not_true, Bool.not_false, Bool.not_not, decide_eq_true_eq, decide_eq_false_iff_not, ge_iff_le, gt_iff_lt] at h)))
  · rw [if_neg hil]
    have hlt : i < l.length := by omega
    have g1 : ¬ (i : Int) ≥ l.length := by omega
    have g2 : (i : Int) < l.length := by omega
    obtain ⟨d1, d2, d3⟩ := h.at hlt
    have hc := sp_L (l.getD i 0)
    have hQ := quoted_L h i hlt
    have hNu := num_L h i (by omega)
    have hNm := numeric_L h i (by omega)
    have i45a := is_L h (i + 1) 45
    have i62 := is_L h (i + 2) 62
    have hNa := name_L h i (by omega)
    have hCa := called_L h i (by omega)
    have i33 := is_L h (i + 1) 33
    have i45b := is_L h (i + 2) 45
    have i45c := is_L h (i + 3) 45
    have hNa1 := name_L h (i + 1) (by omega)
    have hMs := names_L h (i + 1) hlt
    have hIn := inner_L h (i + 1)
    have hEs := esc_L h (i + 1) (by omega)
    have hw1 := w1 i (by omega)
    have hw2 := w2 i (by omega)
    have hw3 := w3 i (by omega)
    have hw4 := w4' i (by omega)
    have hX := excl (l.getD i 0)
    have hTx : CL [l.getD i 0] := ⟨fun x hx => by simp at hx; subst hx; exact ⟨d1, d2⟩, by simp⟩
    have hT : callL Try.prog ext9 59 [.list [.int .i64 (l.getD i 0)]] [] = some (.str (textS [l.getD i 0]), [.no], []) := text_L hTx
    have hdt : ((l.map (D.int .i64)).take (i + 1)).drop i = [.int .i64 (l.getD i 0)] := by
      rw [← List.map_take, ← List.map_drop, take_snoc hlt, List.drop_append, List.length_take, Nat.min_eq_left (by omega)]
      simp
    have hsz := szI64 l
    have k1 : ((i : Nat) : Int) ≤ ((i + 1 : Nat) : Int) := by omega
    have k2 : ((i + 1 : Nat) : Int) ≤ l.length := by omega
    have hSp : ∀ k, callL Try.prog ext9 49 [LI l, .int .i64 (k : Nat)] [] = some (.bool (atB spC l k), [.no], []) := fun k => space_L h k
    have HSp := Hd.mk hSp
    unfold nextC
    generalize hcd : l.getD i 0 = c at *
    obtain ⟨E, hE⟩ : ∃ E, E = nextB (spC c) (c == 34) (c == 39) (numB l i) (c == 45) (isC l (i + 1) 45) (isC l (i + 2) 62) (nameB l i) (c == 60) (isC l (i + 1) 33) (isC l (i + 2) 45) (isC l (i + 3) 45) (c == 64) (nameB l (i + 1)) (c == 35) (atB nmC l (i + 1)) (escB l (i + 1))
      ⟨13, i, spRun l i, [], [], false⟩ (quotedF l i) (numericF l i) ⟨15, i, i + 3, [], [], false⟩ (calledF l i) ⟨14, i, i + 4, [], [], false⟩ ⟨3, i, (namesF l (i + 1)).2, textS (namesF l (i + 1)).1, [], false⟩
      ⟨4, i, (namesF l (i + 1)).2, textS (namesF l (i + 1)).1, [], nameB l (i + 1)⟩ (signTk c i) := ⟨_, rfl⟩
    rw [← hE]
    have HE := Hd.mk hE
    clear hE hSp h hTx hcd d1 d2 p1 p2 p3 hil
    obtain ⟨sp, hsp⟩ : ∃ b, Hid (spRun l i = b) := ⟨_, rfl⟩
    rw [hsp.out] at HE
    obtain ⟨tS, hTS⟩ : ∃ t, Hid (signTk c i = t) := ⟨_, rfl⟩
    rw [hTS.out] at HE
    obtain ⟨q34, e34⟩ : ∃ b, (c == 34) = b := ⟨_, rfl⟩
    obtain ⟨q39, e39⟩ : ∃ b, (c == 39) = b := ⟨_, rfl⟩
    obtain ⟨c45, e45⟩ : ∃ b, (c == 45) = b := ⟨_, rfl⟩
    obtain ⟨c60, e60⟩ : ∃ b, (c == 60) = b := ⟨_, rfl⟩
    obtain ⟨c64, e64⟩ : ∃ b, (c == 64) = b := ⟨_, rfl⟩
    obtain ⟨c35, e35⟩ : ∃ b, (c == 35) = b := ⟨_, rfl⟩
    rw [e34, e39, e45, e60, e64, e35] at HE
    rw [e45, e60, e64, e35] at hX
    generalize quotedF l i = tq at *
    generalize numericF l i = tn at *
    generalize calledF l i = tc at *
    generalize textS (namesF l (i + 1)).1 = ts at *
    generalize (namesF l (i + 1)).2 = te at *
    generalize spC c = s at *
    generalize numB l i = nu at *
    generalize nameB l i = na at *
    generalize isC l (i + 1) 45 = m1 at *
    generalize isC l (i + 2) 62 = m2 at *
    generalize isC l (i + 1) 33 = f1 at *
    generalize isC l (i + 2) 45 = f2 at *
    generalize isC l (i + 3) 45 = f3 at *
    generalize nameB l (i + 1) = na1 at *
    generalize atB nmC l (i + 1) = in1 at *
    generalize escB l (i + 1) = es1 at *
    have hW := ways (d1 := m1) (d2 := m2) (f1 := f1) (f2 := f2) (f3 := f3) (na1 := na1) (in1 := in1) (es1 := es1) hX
    unfold Tk.d tkD at *
    clear hX
    cases s with
    | true =>
      have hE' : E = _ := HE
      simp only [nextB, ↓reduceIte] at hE'
      subst hE'
      clear HE

      clear hW hQ hNu hNm i45a i62 hNa hCa i33 i45b i45c hNa1 hMs hIn hEs hT
      repeat' (first
    | simp only [*, go_seq, go_cond, go_block, go_skip, go_loop, go_region, go_ops_nil, go_ops, okG_some, okB_some, cwD_bool, gw_true, gw_false, guardG, opG, isPtr, inB, sval, stake, eats, eaters, get, cval, cval1, St.taken, put_slot, put_room, dem_none, dem_slot, setBox_slot, setBox_room, entry_slot, entry_ctr, ↓reduceIte, Nat.reduceEqDiff, Nat.reduceLT, reduceCtorEq, decide_true, decide_false, List.filterMap_cons, List.filterMap_nil, Option.map_some, List.getElem?_cons_zero, List.getD_cons_zero, List.getD_cons_succ, List.contains_nil, List.map_cons, List.map_nil, beq_self_eq_true, Bool.and_true, Nat.reduceBEq, Bool.false_eq_true, dbin, dIntBin, okR, callG, row9, frz9, frzOf_def, frz_nil, pureB, leaf, leafN, List.all_cons, List.all_nil, List.nil_append, List.append_nil, List.length_nil, List.length_cons, dcells, Nat.zero_add, Nat.reduceAdd, stepBox, Bool.and_false, Int.natCast_nonneg, Int.toNat_natCast, and_self, ge_iff_le, gt_iff_lt, dp3, ia44, len44, zr56]
    | (refine drW_intro (by kernel_rfl) ?_)
    | (refine gw_intro (fun h => ?_) (fun h => ?_) <;> (try simp only [beq_true, beq_false, Bool.not_eq_eq_eq_not, Bool.not_true, Bool.not_false, Bool.not_not, decide_eq_true_eq, decide_eq_false_iff_not, ge_iff_le, gt_iff_lt] at h)))
      refine loopH (fun st => ∃ k : Nat, k ≤ l.length ∧ st.slot 0 = LI l ∧ st.slot 4 = .ptr 4 1 0 ∧ st.box 4 = some ⟨1, [.int .i64 0, .int .i64 0, .int .i64 0, .str [], .str [], .bool false]⟩ ∧ st.slot 5 = .int .i64 i ∧ st.slot 7 = .int .i64 k ∧ Hd (spRun l k = spRun l i)) (fun st => l.length - slotI st 7) ?_ ?_
      · refine ⟨i, Nat.le_of_lt hlt, ?_, ?_, ?_, ?_, ?_, rfl⟩ <;> first | (simp only [*, put_slot, put_box, dem_slot, dem_box, setBox_box, entry_slot, ↓reduceIte, Nat.reduceEqDiff, reduceCtorEq]; done) | (simp only [*, put_slot, dem_slot, entry_slot, ↓reduceIte, reduceCtorEq]; rfl)
      · rintro st K ⟨k, hkl, s0, s4, b4, s5, s7, hinv⟩ hn hx hr
        have hs := HSp k
        have hwk := w1 k (by omega)
        cases hc' : atB spC l k with
        | true =>
          have hlt2 := atB_lt hc'
          have T : Hd (spRun l (k + 1) = spRun l i) := by
            have h1 : spRun l k = spRun l i := hinv
            unfold spRun at *
            rw [runF_step sp_end hc'] at h1
            exact h1
          rw [hc'] at hs
          clear hinv hx hr HSp
          repeat' (first
    | simp only [*, go_nil, go_seq, go_cond, go_block, go_blk, go_skip, go_region, go_ops_nil, go_ops, okG_some, cwD_bool, gw_true, guardG, opG, isPtr, inB, sval, stake, eats, eaters, get, cval, cval1, St.taken, put_slot, put_room, dem_none, ↓reduceIte, Nat.reduceEqDiff, Nat.reduceLT, decide_true, List.filterMap_cons, List.filterMap_nil, Option.map_some, List.contains_nil, List.map_cons, List.map_nil, Bool.and_true, Nat.reduceBEq, Bool.false_eq_true, dbin, dIntBin, okR, callG, row9, frz9, frzOf_def, frz_nil, pureB, leaf, leafN, List.all_cons, List.all_nil, List.nil_append, List.append_nil, Bool.and_false]
    | (refine drW_intro (by kernel_rfl) ?_)
    | (refine gw_intro (fun h => ?_) (fun h => ?_) <;> (try simp only [beq_true, beq_false, Bool.not_eq_eq_eq_not, Bool.not_true, Bool.not_false, Bool.not_not, decide_eq_true_eq, decide_eq_false_iff_not, ge_iff_le, gt_iff_lt] at h)))
          refine hn _ ⟨k + 1, hlt2, ?_, ?_, ?_, ?_, ?_, T⟩ ?_
          all_goals first | (simp only [*, put_slot, put_box, dem_slot, dem_box, ↓reduceIte, Nat.reduceEqDiff, reduceCtorEq]; done) | (simp only [slotI, *, put_slot, ↓reduceIte]; omega)
        | false =>
          have hrun : sp = k := by
            rw [← hsp.out]
            have h1 : spRun l k = spRun l i := hinv
            rw [← h1]
            exact runF_stop hc'
          rw [hc'] at hs
          subst hrun
          clear hinv hn hr HSp hsp
          repeat' (first
    | simp only [*, go_nil, go_seq, go_cond, go_exit, go_xcode, go_region, go_ops_nil, go_ops, okG_some, cwD_bool, gw_false, guardG, opG, isPtr, inB, sval, stake, eats, eaters, get, St.taken, put_slot, dem_none, ↓reduceIte, Nat.reduceEqDiff, Nat.reduceLT, decide_true, List.filterMap_cons, List.filterMap_nil, List.contains_nil, List.map_cons, List.map_nil, Bool.and_true, Nat.reduceBEq, Bool.false_eq_true, okR, callG, row9, frz9, frzOf_def, frz_nil, pureB, leaf, leafN, List.all_cons, List.all_nil, List.nil_append, List.append_nil, Bool.and_false]
    | (refine drW_intro (by kernel_rfl) ?_)
    | (refine gw_intro (fun h => ?_) (fun h => ?_) <;> (try simp only [beq_true, beq_false, Bool.not_eq_eq_eq_not, Bool.not_true, Bool.not_false, Bool.not_not, decide_eq_true_eq, decide_eq_false_iff_not, ge_iff_le, gt_iff_lt] at h)))
          refine hx _ _ ?_
          repeat' (first
    | simp only [*, go_seq, go_retc, go_xblk, go_region, go_ops_nil, go_ops, okG_some, okB_some, guardG, opG, inB, sval, stake, eats, eaters, get, cval, cval1, St.taken, put_slot, put_box, put_none, dem_none, setBox_slot, setBox_box, endQ, endR, endV, rvars, rvar, room1, ↓reduceIte, Nat.reduceEqDiff, Nat.reduceLT, Nat.reduceLeDiff, decide_true, List.filterMap_cons, List.filterMap_nil, Option.map_some, List.contains_nil, List.map_cons, List.map_nil, Bool.and_true, Nat.reduceBEq, Bool.false_eq_true, row9, frz9, frzOf_def, frz_nil, pureB, leaf, leafN, List.all_cons, List.all_nil, List.nil_append, List.append_nil, List.range_zero, List.length_nil, List.length_cons, List.take_zero, List.drop_zero, List.drop_succ_cons, dcells, Nat.zero_add, Nat.reduceAdd, stepBox, Bool.and_false, and_self, ty56, dp56, bd56_012]
    | (refine drW_intro (by kernel_rfl) ?_)
    | (refine gw_intro (fun h => ?_) (fun h => ?_) <;> (try simp only [beq_true, beq_false, Bool.not_eq_eq_eq_not, Bool.not_true, Bool.not_false, Bool.not_not, decide_eq_true_eq, decide_eq_false_iff_not, ge_iff_le, gt_iff_lt] at h)))
    | false =>
      cases q34 with
      | true =>
        have hE' : E = _ := HE
        simp only [nextB, Bool.true_or, Bool.false_eq_true, ↓reduceIte] at hE'
        subst hE'
        clear HE

        clear hW hNu hNm i45a i62 hNa hCa i33 i45b i45c hNa1 hMs hIn hEs hT
        repeat' (first
    | simp only [*, go_seq, go_cond, go_skip, go_retc, go_region, go_ops_nil, go_ops, okG_some, okB_some, gwD_bool, cwD_bool, gw_true, gw_false, guardG, opG, isPtr, inB, sval, stake, eats, eaters, get, cval, cval1, croom, St.taken, put_slot, put_room, put_box, put_none, dem_none, dem_slot, dem_box, dem_room, setBox_slot, setBox_room, setBox_box, entry_slot, entry_room, entry_box, entry_ctr, endQ, endR, endV, rvars, rvar, room1, ↓reduceIte, Nat.reduceEqDiff, Nat.reduceLT, Nat.reduceLeDiff, reduceCtorEq, decide_true, decide_false, List.filterMap_cons, List.filterMap_nil, Option.bind_some, Option.map_some, List.getElem?_cons_zero, List.getElem?_cons_succ, List.getD_cons_zero, List.getD_cons_succ, List.contains_nil, List.map_cons, List.map_nil, beq_self_eq_true, Bool.and_true, Nat.reduceBEq, Bool.false_eq_true, dbin, dIntBin, okR, callG, row9, frz9, frzOf_def, frz_nil, beq_false, Bool.not_true, pureB, leaf, leafN, List.all_cons, List.all_nil, List.nil_append, List.append_nil, List.range_zero, List.length_nil, List.length_cons, List.getElem?_nil, List.take_zero, List.drop_zero, List.drop_succ_cons, dcells, Nat.zero_add, Nat.reduceAdd, stepBox, Bool.and_false, Int.natCast_nonneg, Int.toNat_natCast, and_self, ge_iff_le, gt_iff_lt, dStrBin, dp3, ia44, len44, ty56, dp56, zr56]
    | (refine drW_intro (by kernel_rfl) ?_)
    | (refine gw_intro (fun h => ?_) (fun h => ?_) <;> (try simp only [beq_true, beq_false, Bool.not_eq_eq_eq_not, Bool.not_true, Bool.not_false, Bool.not_not, decide_eq_true_eq, decide_eq_false_iff_not, ge_iff_le, gt_iff_lt] at h)))
      | false =>
        cases q39 with
        | true =>
          have hE' : E = _ := HE
          simp only [nextB, Bool.or_true, Bool.false_eq_true, ↓reduceIte] at hE'
          subst hE'
          clear HE

          clear hW hNu hNm i45a i62 hNa hCa i33 i45b i45c hNa1 hMs hIn hEs hT
          repeat' (first
    | simp only [*, go_seq, go_cond, go_skip, go_retc, go_region, go_ops_nil, go_ops, okG_some, okB_some, gwD_bool, cwD_bool, gw_true, gw_false, guardG, opG, isPtr, inB, sval, stake, eats, eaters, get, cval, cval1, croom, St.taken, put_slot, put_room, put_box, put_none, dem_none, dem_slot, dem_box, dem_room, setBox_slot, setBox_room, setBox_box, entry_slot, entry_room, entry_box, entry_ctr, endQ, endR, endV, rvars, rvar, room1, ↓reduceIte, Nat.reduceEqDiff, Nat.reduceLT, Nat.reduceLeDiff, reduceCtorEq, decide_true, decide_false, List.filterMap_cons, List.filterMap_nil, Option.bind_some, Option.map_some, List.getElem?_cons_zero, List.getElem?_cons_succ, List.getD_cons_zero, List.getD_cons_succ, List.contains_nil, List.map_cons, List.map_nil, beq_self_eq_true, Bool.and_true, Nat.reduceBEq, Bool.false_eq_true, dbin, dIntBin, okR, callG, row9, frz9, frzOf_def, frz_nil, pureB, leaf, leafN, List.all_cons, List.all_nil, List.nil_append, List.append_nil, List.range_zero, List.length_nil, List.length_cons, List.getElem?_nil, List.take_zero, List.drop_zero, List.drop_succ_cons, dcells, Nat.zero_add, Nat.reduceAdd, stepBox, Bool.and_false, Int.natCast_nonneg, Int.toNat_natCast, and_self, ge_iff_le, gt_iff_lt, dStrBin, dp3, ia44, len44, ty56, dp56, zr56]
    | (refine drW_intro (by kernel_rfl) ?_)
    | (refine gw_intro (fun h => ?_) (fun h => ?_) <;> (try simp only [beq_true, beq_false, Bool.not_eq_eq_eq_not, Bool.not_true, Bool.not_false, Bool.not_not, decide_eq_true_eq, decide_eq_false_iff_not, ge_iff_le, gt_iff_lt] at h)))
        | false =>
          cases nu with
          | true =>
            have hE' : E = _ := HE
            simp only [nextB, Bool.or_false, Bool.false_eq_true, ↓reduceIte] at hE'
            subst hE'
            clear HE

            clear hW hQ i45a i62 hNa hCa i33 i45b i45c hNa1 hMs hIn hEs hT
            repeat' (first
    | simp only [*, go_seq, go_cond, go_skip, go_retc, go_region, go_ops_nil, go_ops, okG_some, okB_some, gwD_bool, cwD_bool, gw_true, gw_false, guardG, opG, isPtr, inB, sval, stake, eats, eaters, get, cval, cval1, croom, St.taken, put_slot, put_room, put_box, put_none, dem_none, dem_slot, dem_box, dem_room, setBox_slot, setBox_room, setBox_box, entry_slot, entry_room, entry_box, entry_ctr, endQ, endR, endV, rvars, rvar, room1, ↓reduceIte, Nat.reduceEqDiff, Nat.reduceLT, Nat.reduceLeDiff, reduceCtorEq, decide_true, decide_false, List.filterMap_cons, List.filterMap_nil, Option.bind_some, Option.map_some, List.getElem?_cons_zero, List.getElem?_cons_succ, List.getD_cons_zero, List.getD_cons_succ, List.contains_nil, List.map_cons, List.map_nil, beq_self_eq_true, Bool.and_true, Nat.reduceBEq, Bool.false_eq_true, dbin, dIntBin, okR, callG, row9, frz9, frzOf_def, frz_nil, pureB, leaf, leafN, List.all_cons, List.all_nil, List.nil_append, List.append_nil, List.range_zero, List.length_nil, List.length_cons, List.getElem?_nil, List.take_zero, List.drop_zero, List.drop_succ_cons, dcells, Nat.zero_add, Nat.reduceAdd, stepBox, Bool.and_false, Int.natCast_nonneg, Int.toNat_natCast, and_self, ge_iff_le, gt_iff_lt, dStrBin, dp3, ia44, len44, ty56, dp56, zr56]
    | (refine drW_intro (by kernel_rfl) ?_)
    | (refine gw_intro (fun h => ?_) (fun h => ?_) <;> (try simp only [beq_true, beq_false, Bool.not_eq_eq_eq_not, Bool.not_true, Bool.not_false, Bool.not_not, decide_eq_true_eq, decide_eq_false_iff_not, ge_iff_le, gt_iff_lt] at h)))
          | false =>
            clear hQ hNm
            rcases hW with ⟨⟨rfl, rfl, rfl, rfl⟩, ⟨rfl, rfl⟩ | rfl | ⟨rfl, rfl⟩⟩ | ⟨⟨rfl, rfl, rfl, rfl⟩, ⟨rfl, rfl, rfl⟩ | rfl | ⟨rfl, rfl⟩ | ⟨rfl, rfl, rfl⟩⟩ | ⟨⟨rfl, rfl, rfl, rfl⟩, rfl | rfl⟩ | ⟨⟨rfl, rfl, rfl, rfl⟩, rfl | ⟨rfl, rfl⟩ | ⟨rfl, rfl⟩⟩ | ⟨rfl, rfl, rfl, rfl⟩
            all_goals
              cases na
            all_goals
              have hE' : E = _ := HE
              simp only [nextB, Bool.and_true, Bool.and_false, Bool.false_and, Bool.or_true, Bool.true_or, Bool.or_false, Bool.false_eq_true, ↓reduceIte] at hE'
              subst hE'
              clear HE

              repeat' (first
    | simp only [*, bs44_9, go_seq, go_cond, go_block, go_skip, go_retc, go_loop, go_region, go_ops_nil, go_ops, okG_some, okB_some, gwD_bool, gwD_undef, cwD_bool, gw_true, gw_false, guardG, opG, isPtr, inB, sval, stake, eats, eaters, get, cval, cval1, croom, St.taken, put_slot, put_room, put_box, put_none, dem_none, dem_slot, dem_box, dem_room, dem_room1, setBox_slot, setBox_room, setBox_box, entry_slot, entry_room, entry_box, entry_ctr, endQ, endR, endV, rvars, rvar, room1, ↓reduceIte, Nat.reduceEqDiff, Nat.reduceLT, Nat.reduceLeDiff, reduceCtorEq, decide_true, decide_false, List.filterMap_cons, List.filterMap_nil, Option.bind_some, Option.map_some, List.getElem?_cons_zero, List.getElem?_cons_succ, List.getD_cons_zero, List.getD_cons_succ, List.contains_cons, List.contains_nil, List.map_cons, List.map_nil, beq_self_eq_true, Bool.or_false, Bool.or_true, Bool.and_true, Nat.reduceBEq, Bool.false_eq_true, dbin, dIntBin, okR, callG, row9, frz9, frzOf_def, frz_nil, beq_true, beq_false, Bool.not_true, pureB, leaf, leafN, List.all_cons, List.all_nil, List.nil_append, List.append_nil, List.range_zero, List.length_nil, List.length_cons, List.getElem?_nil, List.take_zero, List.drop_zero, List.drop_succ_cons, dcells, Nat.zero_add, Nat.reduceAdd, stepBox, Bool.and_false, Int.natCast_nonneg, Int.toNat_natCast, and_self, ge_iff_le, gt_iff_lt, dStrBin, dp3, ia44, len44, ty56, dp56, zr56, bd56_012, bd56_0123, bd56_01235]
    | (refine drW_intro (by kernel_rfl) ?_)
    | (refine gw_intro (fun h => ?_) (fun h => ?_) <;> (try simp only [beq_true, beq_false, Bool.not_eq_eq_eq_not, Bool.not_true, Bool.not_false, Bool.not_not, decide_eq_true_eq, decide_eq_false_iff_not, ge_iff_le, gt_iff_lt] at h)))
            all_goals
              clear hNu i45a i62 hNa hCa i33 i45b i45c hNa1 hMs hIn hEs HSp
              refine loopH (fun st => ∃ k : Nat, k ≤ 9 ∧ st.slot 0 = LI l ∧ st.slot 4 = .ptr 4 1 0 ∧ st.box 4 = some ⟨1, [.int .i64 0, .int .i64 0, .int .i64 0, .str [], .str [], .bool false]⟩ ∧ st.slot 5 = .int .i64 i ∧ st.slot 6 = .int .i64 c ∧ st.slot 12 = .str sgS ∧ st.slot 13 = LI kdS ∧ st.slot 14 = .int .i64 k ∧ Hd (sgFrom c (9 - k) k = sgFrom c 9 0)) (fun st => 9 - slotI st 14) ?_ ?_
              · refine ⟨0, by decide, ?_, ?_, ?_, ?_, ?_, ?_, ?_, ?_, rfl⟩ <;> first | (simp only [*, put_slot, put_box, dem_slot, dem_box, setBox_box, entry_slot, ↓reduceIte, Nat.reduceEqDiff, reduceCtorEq]; done) | (simp only [*, put_slot, dem_slot, entry_slot, ↓reduceIte, Nat.reduceEqDiff, reduceCtorEq]; rfl)
              · rintro st K ⟨k, hk, s0, s4, b4, s5, s6, s12, s13, s14, hinv⟩ hn hx hr
                have hwk := w1 k (by omega)
                have hinv' : sgFrom c (9 - k) k = sgFrom c 9 0 := hinv
                have hTS' : signTk c i = E := hTS.out
                clear hinv hTS
                by_cases hk9 : k < 9
                · have hkl : (k : Int) < ((sgS.length : Nat) : Int) := by show _ < (9 : Int); omega
                  have hkm : (k : Int) < (((kdS.map (D.int .i64)).length : Nat) : Int) := by show _ < (9 : Int); omega
                  have hkd : (kdS.map (D.int .i64)).getD k .bad = .int .i64 (kdS.getD k 0) := by simp [List.getD, show k < kdS.length from hk9]
                  have hxb := (sgS.getD k 0).toNat_lt
                  rw [show 9 - k = (9 - (k + 1)) + 1 by omega, sgFrom] at hinv'
                  obtain ⟨x, hxe⟩ : ∃ x : Nat, (sgS.getD k 0).toNat = x := ⟨_, rfl⟩
                  rw [hxe] at hinv' hxb
                  have hwx : IntKind.i64.wrap (x : Int) = x := wrap64 _ (by omega) (by omega)
                  by_cases hxc : (x : Int) = c
                  · have e1 : ((x : Int) == c) = true := by rw [beq_iff_eq]; exact hxc
                    rw [if_pos hxc] at hinv'
                    have hS : E = ⟨kdS.getD k 0, i, i + 1, [], [], false⟩ := by rw [← hTS']; unfold signTk; rw [← hinv']
                    rw [hS] at hx hr
                    generalize kdS.getD k 0 = kk at *
                    clear hS hTS' hinv' hxc hn hx
                    repeat' (first
    | simp only [*, go_seq, go_cond, go_block, go_skip, go_retc, go_region, go_ops_nil, go_ops, okG_some, okB_some, cwD_bool, gw_true, guardG, opG, isPtr, inB, sval, stake, eats, eaters, get, cval, cval1, St.taken, put_slot, put_box, put_none, dem_none, ↓reduceIte, Nat.reduceEqDiff, Nat.reduceLT, Nat.reduceLeDiff, decide_true, List.filterMap_cons, List.filterMap_nil, Option.map_some, List.getElem?_cons_zero, List.contains_nil, List.map_cons, List.map_nil, Bool.and_true, Nat.reduceBEq, Bool.false_eq_true, dbin, dIntBin, row9, frz9, frzOf_def, frz_nil, pureB, leaf, leafN, List.all_cons, List.all_nil, List.nil_append, List.append_nil, List.length_nil, List.length_cons, List.take_zero, List.drop_zero, List.drop_succ_cons, dcells, Nat.zero_add, Nat.reduceAdd, stepBox, Bool.and_false, Bool.false_and, Int.natCast_nonneg, Int.toNat_natCast, and_self, dp3, ia44, ty56, bd56_012, len9, ix9, cv53]
    | (refine drW_intro (by kernel_rfl) ?_)
    | (refine gw_intro (fun h => ?_) (fun h => ?_) <;> (try simp only [beq_true, beq_false, Bool.not_eq_eq_eq_not, Bool.not_true, Bool.not_false, Bool.not_not, decide_eq_true_eq, decide_eq_false_iff_not, ge_iff_le, gt_iff_lt] at h)))
                    refine hr _ ?_
                    repeat' (first
    | simp only [*, put_slot, put_box, setBox_slot, setBox_box, endQ, endR, endV, rvars, rvar, room1, ↓reduceIte, Nat.reduceEqDiff, Option.map_some, List.map_nil, Bool.and_true, pureB, leaf, leafN, List.all_cons, List.all_nil, List.range_zero, and_self, dp56]
    | (refine drW_intro (by kernel_rfl) ?_)
    | (refine gw_intro (fun h => ?_) (fun h => ?_) <;> (try simp only [beq_true, beq_false, Bool.not_eq_eq_eq_not, Bool.not_true, Bool.not_false, Bool.not_not, decide_eq_true_eq, decide_eq_false_iff_not, ge_iff_le, gt_iff_lt] at h)))
                  · have e1 : ((x : Int) == c) = false := by rw [beq_eq_false_iff_ne]; exact hxc
                    rw [if_neg hxc] at hinv'
                    have T := Hd.mk hinv'
                    clear hTS' hinv' hxc hx hr
                    repeat' (first
    | simp only [*, go_nil, go_seq, go_cond, go_block, go_blk, go_skip, go_region, go_ops_nil, go_ops, okG_some, cwD_bool, gw_true, gw_false, guardG, opG, isPtr, inB, sval, stake, eats, eaters, get, cval, cval1, St.taken, put_slot, put_room, dem_none, ↓reduceIte, Nat.reduceEqDiff, Nat.reduceLT, decide_true, List.filterMap_cons, List.filterMap_nil, Option.map_some, List.contains_nil, List.map_cons, List.map_nil, Nat.reduceBEq, Bool.false_eq_true, dbin, dIntBin, row9, frz9, frzOf_def, frz_nil, Bool.and_false, Bool.false_and, Int.natCast_nonneg, Int.toNat_natCast, and_self, len9, ix9, cv53]
    | (refine drW_intro (by kernel_rfl) ?_)
    | (refine gw_intro (fun h => ?_) (fun h => ?_) <;> (try simp only [beq_true, beq_false, Bool.not_eq_eq_eq_not, Bool.not_true, Bool.not_false, Bool.not_not, decide_eq_true_eq, decide_eq_false_iff_not, ge_iff_le, gt_iff_lt] at h)))
                    refine hn _ ⟨k + 1, by omega, ?_, ?_, ?_, ?_, ?_, ?_, ?_, ?_, T⟩ ?_
                    all_goals first | (simp only [*, put_slot, put_box, dem_slot, dem_box, ↓reduceIte, Nat.reduceEqDiff, reduceCtorEq]; done) | (simp only [slotI, *, put_slot, ↓reduceIte]; omega)
                · have hkl : ¬ (k : Int) < ((sgS.length : Nat) : Int) := by show ¬ _ < (9 : Int); omega
                  rw [show 9 - k = 0 by omega, sgFrom] at hinv'
                  have hS : E = ⟨9, i, i + 1, textS [c], [], false⟩ := by rw [← hTS']; unfold signTk; rw [← hinv']
                  rw [hS] at hx hr
                  generalize textS [c] = tx at *
                  clear hS hTS' hinv' hn hr
                  repeat' (first
    | simp only [*, go_nil, go_seq, go_cond, go_exit, go_xcode, go_region, go_ops_nil, go_ops, okG_some, cwD_bool, gw_false, guardG, opG, isPtr, inB, sval, stake, eats, eaters, get, St.taken, put_slot, dem_none, ↓reduceIte, Nat.reduceEqDiff, Nat.reduceLT, decide_true, decide_false, List.filterMap_cons, List.filterMap_nil, Option.map_some, List.contains_nil, List.map_cons, List.map_nil, Nat.reduceBEq, Bool.false_eq_true, dbin, dIntBin, row9, frz9, frzOf_def, frz_nil, Bool.and_false, len9]
    | (refine drW_intro (by kernel_rfl) ?_)
    | (refine gw_intro (fun h => ?_) (fun h => ?_) <;> (try simp only [beq_true, beq_false, Bool.not_eq_eq_eq_not, Bool.not_true, Bool.not_false, Bool.not_not, decide_eq_true_eq, decide_eq_false_iff_not, ge_iff_le, gt_iff_lt] at h)))
                  refine hx _ _ ?_
                  repeat' (first
    | simp only [*, go_seq, go_retc, go_xblk, go_region, go_ops_nil, go_ops, okG_some, okB_some, guardG, opG, isPtr, inB, sval, stake, eats, eaters, get, cval, cval1, St.taken, put_slot, put_box, put_none, dem_none, setBox_slot, setBox_box, endQ, endR, endV, rvars, rvar, room1, ↓reduceIte, Nat.reduceEqDiff, Nat.reduceLT, Nat.reduceLeDiff, reduceCtorEq, decide_true, List.filterMap_cons, List.filterMap_nil, Option.bind_some, Option.map_some, Option.map_none, List.contains_nil, List.map_cons, List.map_nil, Bool.and_true, Nat.reduceBEq, Bool.false_eq_true, dbin, dIntBin, okR, callG, row9, frz9, frzOf_def, frz_nil, pureB, leaf, leafN, List.all_cons, List.all_nil, List.nil_append, List.append_nil, List.range_zero, List.length_nil, List.length_cons, List.take_zero, List.drop_zero, List.drop_succ_cons, dcells, Nat.zero_add, Nat.reduceAdd, stepBox, Bool.and_false, true_and, Int.natCast_nonneg, Int.toNat_natCast, and_self, dopt, dbound, sl44, ty56, dp56, bd56_0123]
    | (refine drW_intro (by kernel_rfl) ?_)
    | (refine gw_intro (fun h => ?_) (fun h => ?_) <;> (try simp only [beq_true, beq_false, Bool.not_eq_eq_eq_not, Bool.not_true, Bool.not_false, Bool.not_not, decide_eq_true_eq, decide_eq_false_iff_not, ge_iff_le, gt_iff_lt] at h)))
end Go.Av
/- Chapter 19, plain: each token ends behind its place. No program in sight. -/
set_option linter.unusedVariables false
namespace Go.Av
open Go.Proofs Go.Proofs.Ytaldmffahmomoaa
/-- A token that is the end, or goes on. -/
def OnT (n a : Nat) (t : Tk) : Prop := t.kind ≠ 0 ∧ a < t.to ∧ t.to ≤ n
theorem spRun_pos {l : List Int} {i : Nat} (hi : i < l.length) (hs : spC (l.getD i 0) = true) : i < spRun l i ∧ spRun l i ≤ l.length := by
  have h : atB spC l i = true := by unfold atB; rw [hs]; simp [hi]
  have hp := runF_pos (p := atB spC l) (n := l.length) (a := i + 1)
  unfold spRun
  rw [runF_step sp_end h]
  omega
theorem spRun_ge {l : List Int} {i : Nat} : i ≤ spRun l i ∧ (i ≤ l.length → spRun l i ≤ l.length) := runF_pos
theorem quoted_on {l : List Int} {i : Nat} (hi : i < l.length) : OnT l.length i (quotedF l i) := by
  have hp := (quot_goes l (l.getD i 0)).pos (l.length - (i + 1)) (i + 1) []
  unfold OnT quotedF
  have e : quotR l i = scan (quotS l (l.getD i 0)) (l.length - (i + 1)) (i + 1) [] := rfl
  rw [← e] at hp
  split
  · split
    · exact ⟨by simp, by show i < _ + 1; omega, by show _ + 1 ≤ _; omega⟩
    · exact ⟨by simp, by show i < (quotR l i).1; omega, by show (quotR l i).1 ≤ _; omega⟩
  · exact ⟨by simp, by show i < (quotR l i).1; omega, by show (quotR l i).1 ≤ _; omega⟩
theorem digit_run {l : List Int} {a : Nat} (h : atB dgC l a = true) : a < drun l a := by
  unfold drun
  rw [runF_step dg_end h]
  have := runF_pos (p := atB dgC l) (n := l.length) (a := a + 1)
  omega
theorem fracF_ge {l : List Int} {a : Nat} (h : a ≤ l.length) : a ≤ (fracF l a).1 ∧ ((isC l a 46 && atB dgC l (a + 1)) = true → a < (fracF l a).1) := by
  unfold fracF
  cases hc : (isC l a 46 && atB dgC l (a + 1)) with
  | true =>
    rw [if_pos rfl]
    have h2 : atB dgC l (a + 1) = true := by simp only [Bool.and_eq_true] at hc; exact hc.2
    have h3 := digit_run h2
    have h4 := (runF_pos (p := atB dgC l) (n := l.length) (a := a + 1)).2 (Nat.le_of_lt (atB_lt h2))
    have := expF_pos (l := l) (a := drun l (a + 1)) (w := false) h4
    omega
  | false =>
    rw [if_neg (by simp)]
    have := expF_pos (l := l) (w := true) h
    exact ⟨this.1, fun h => by cases h⟩
theorem digF_on {l : List Int} {i : Nat} (hi : i < l.length) (hn : numB l i = true) : i < (digF l i).1 ∧ (digF l i).1 ≤ l.length := by
  refine ⟨?_, (digF_pos (Nat.le_of_lt hi)).2⟩
  unfold digF
  have hr := runF_pos (p := atB dgC l) (n := l.length) (a := signB l i)
  have hs := signB_pos (l := l) (a := i)
  have hle : drun l (signB l i) ≤ l.length := hr.2 (hs.2.2 (Nat.le_of_lt hi))
  have hf := fracF_ge hle
  have hge : signB l i ≤ drun l (signB l i) := hr.1
  unfold numB at hn
  cases hsg : (isC l i 43 || isC l i 45) with
  | true =>
    have : signB l i = i + 1 := by unfold signB; rw [hsg, if_pos rfl]
    omega
  | false =>
    rw [hsg, if_neg (by simp)] at hn
    have hsi : signB l i = i := by unfold signB; rw [hsg, if_neg (by simp)]
    rw [hsi] at hle hge hf ⊢
    cases hd : atB dgC l i with
    | true =>
      have := digit_run hd
      omega
    | false =>
      rw [hd, Bool.false_or] at hn
      have he : drun l i = i := runF_stop hd
      rw [he] at hf ⊢
      exact hf.2 hn
theorem names_on {l : List Int} {i : Nat} (hn : atB nmC l i = true ∨ escB l i = true) : i < (namesF l i).2 := by
  have hi : i < l.length := by rcases hn with h | h; exact atB_lt h; exact escB_lt h
  unfold namesF
  rw [show l.length - i = (l.length - (i + 1)) + 1 by omega, namesN]
  cases h1 : atB nmC l i with
  | true =>
    rw [if_pos rfl]
    have := namesN_pos (l := l) (l.length - (i + 1)) (i + 1) ([] ++ [l.getD i 0])
    omega
  | false =>
    rw [if_neg (by simp)]
    have h2 : escB l i = true := by rcases hn with h | h; rw [h1] at h; cases h; exact h
    rw [if_pos h2]
    have hv := val_pos hi
    have := namesN_pos (l := l) (l.length - (i + 1)) (valF l i).2 ([] ++ [(valF l i).1])
    omega
theorem name_starts {l : List Int} {i : Nat} (h : nameB l i = true) : atB nmC l i = true ∨ escB l i = true := by
  unfold nameB at h
  cases h1 : isC l i 45 with
  | true =>
    left
    simp only [isC, Bool.and_eq_true, decide_eq_true_eq, beq_iff_eq] at h1
    unfold atB
    rw [h1.2]
    simp only [h1.1, decide_true, Bool.true_and]
    decide
  | false =>
    rw [h1, if_neg (by simp), Bool.or_eq_true] at h
    rcases h with h | h
    · left
      unfold atB at *
      simp only [Bool.and_eq_true, decide_eq_true_eq] at h
      simp only [h.1, decide_true, Bool.true_and]
      unfold nmC
      rw [h.2]
      rfl
    · exact .inr h
theorem url_on {l : List Int} {fr a : Nat} (ha : a ≤ l.length) (h1 : fr < a) : OnT l.length fr (urlF l fr a) := by
  have hp := (url_goes l).pos (l.length - a) a []
  have e : urlR l a = scan (urlS l) (l.length - a) a [] := rfl
  rw [← e] at hp
  have hs := spRun_ge (l := l) (i := (urlR l a).1)
  unfold OnT urlF urlE
  split
  · exact ⟨by simp, by show fr < l.length; omega, Nat.le_refl _⟩
  · split
    · exact ⟨by simp, by show fr < _ + 1; omega, by show _ + 1 ≤ _; omega⟩
    · have hr := restF_pos (l := l) (a := spRun l (urlR l a).1) (by omega)
      exact ⟨by simp, by show fr < restF _ _; omega, hr.2⟩
theorem called_on {l : List Int} {i : Nat} (hi : i < l.length) (hn : nameB l i = true) : OnT l.length i (calledF l i) := by
  have h1 := names_on (name_starts hn)
  have h2 := (namesF_pos (Nat.le_of_lt hi)).2.1
  unfold calledF
  cases hp : isC l (namesF l i).2 40 with
  | true =>
    rw [if_pos rfl]
    have h3 := isC_lt hp
    split
    · have hs := spRun_ge (l := l) (i := (namesF l i).2 + 1)
      exact url_on (by omega) (by omega)
    · exact ⟨by simp, by show i < _ + 1; omega, by show _ + 1 ≤ _; omega⟩
  | false =>
    rw [if_neg (by simp)]
    exact ⟨by simp, h1, h2⟩
theorem numeric_on {l : List Int} {i : Nat} (hi : i < l.length) (hn : numB l i = true) : OnT l.length i (numericF l i) := by
  have h1 := digF_on hi hn
  unfold numericF
  simp only
  split
  · have h2 := namesF_pos h1.2
    exact ⟨by show (12 : Int) ≠ 0; decide, by show i < (namesF _ _).2; omega, by show (namesF _ _).2 ≤ _; omega⟩
  · split
    · rename_i h3
      have := isC_lt h3
      exact ⟨by show (11 : Int) ≠ 0; decide, by show i < _ + 1; omega, by show _ + 1 ≤ _; omega⟩
    · exact ⟨by show (10 : Int) ≠ 0; decide, h1.1, h1.2⟩
theorem sgFrom_lt (c : Int) : ∀ (n k m : Nat), sgFrom c n k = some m → m < k + n
  | 0, k, m, h => by cases h
  | n + 1, k, m, h => by
    unfold sgFrom at h
    split at h
    · injection h with h; omega
    · have := sgFrom_lt c n (k + 1) m h; omega
theorem sign_on {l : List Int} {i : Nat} {c : Int} (hi : i < l.length) : OnT l.length i (signTk c i) := by
  unfold signTk
  split
  · rename_i k hk
    have hk9 := sgFrom_lt c 9 0 k hk
    refine ⟨?_, by show i < i + 1; omega, by show i + 1 ≤ _; omega⟩
    show kdS.getD k 0 ≠ 0
    rcases (by omega : k = 0 ∨ k = 1 ∨ k = 2 ∨ k = 3 ∨ k = 4 ∨ k = 5 ∨ k = 6 ∨ k = 7 ∨ k = 8) with rfl | rfl | rfl | rfl | rfl | rfl | rfl | rfl | rfl <;> decide
  · exact ⟨by show (9 : Int) ≠ 0; decide, by show i < i + 1; omega, by show i + 1 ≤ _; omega⟩
theorem next_on {l : List Int} {a : Nat} (ha : a ≤ l.length) : (nextF l a).kind = 0 ∨ OnT l.length a (nextF l a) := by
  have hb := behF_pos (l := l) (a := a)
  unfold nextF
  split
  · exact .inl rfl
  · rename_i h1
    have hi : behF l a < l.length := by omega
    have up : ∀ t, OnT l.length (behF l a) t → OnT l.length a t := fun t h => ⟨h.1, by have := h.2.1; omega, h.2.2⟩
    right
    refine up _ ?_
    generalize behF l a = i at *
    unfold nextC nextB
    split
    · rename_i h
      have := spRun_pos hi h
      exact ⟨by show (13 : Int) ≠ 0; decide, this.1, this.2⟩
    split
    · exact quoted_on hi
    split
    · rename_i h
      exact numeric_on hi h
    split
    · rename_i h
      simp only [Bool.and_eq_true] at h
      have := isC_lt h.2
      exact ⟨by show (15 : Int) ≠ 0; decide, by show i < i + 3; omega, by show i + 3 ≤ _; omega⟩
    split
    · rename_i h
      exact called_on hi h
    split
    · rename_i h
      simp only [Bool.and_eq_true] at h
      have := isC_lt h.2
      exact ⟨by show (14 : Int) ≠ 0; decide, by show i < i + 4; omega, by show i + 4 ≤ _; omega⟩
    split
    · rename_i h
      have hn := namesF_pos (l := l) (a := i + 1) hi
      exact ⟨by show (3 : Int) ≠ 0; decide, by show i < (namesF _ _).2; omega, hn.2.1⟩
    split
    · have hn := namesF_pos (l := l) (a := i + 1) hi
      exact ⟨by show (4 : Int) ≠ 0; decide, by show i < (namesF _ _).2; omega, hn.2.1⟩
    · exact sign_on hi
end Go.Av
/- Chapter 19: the document's characters of bytes, and what a style sheet has of them. -/
set_option linter.unusedSimpArgs false
set_option linter.unusedVariables false
set_option linter.unusedSectionVars false
set_option maxRecDepth 100000
namespace Go.Av
open Go.Proofs Go.Proofs.Ytaldmffahmomoaa Go.RowKit
theorem byI_eq : ∀ {es : List D} {zs : List Int}, byI es = some zs → es = zs.map (D.int .u8) ∧ BytesOK zs
  | [], zs, h => by
    simp [byI] at h; subst h
    exact ⟨rfl, fun i hi => by simp at hi⟩
  | .int .u8 n :: r, zs, h => by
    simp only [byI] at h
    split at h
    · rename_i hn
      obtain ⟨ys, hy, rfl⟩ := Option.map_eq_some_iff.1 h
      obtain ⟨h1, h2⟩ := byI_eq hy
      refine ⟨by rw [h1]; rfl, fun i hi => ?_⟩
      cases i with
      | zero => exact hn
      | succ i => exact h2 i (by simpa using hi)
    · cases h
theorem byI_of : ∀ {zs : List Int}, BytesOK zs → byI (zs.map (D.int .u8)) = some zs
  | [], _ => rfl
  | z :: zs, h => by
    have h0 := h 0 (by simp)
    have ih := byI_of (zs := zs) fun i hi => h (i + 1) (by simpa using hi)
    simp only [List.map_cons, byI]
    rw [if_pos (by simpa using h0), ih]
    rfl
theorem rFirst_of {zs : List Int} (hz : BytesOK zs) (h : 0 < zs.length) : rFirst zs = firstOf zs := by
  cases zs with
  | nil => cases h
  | cons x r => exact first_eq x r (hz 0 (by simp)).1
set_option maxHeartbeats 4000000 in
theorem rchars_L (zs : List Int) (hz : BytesOK zs) (hl : zs.length < 1000000000) : ∃ r, callL Try.prog ext9 25 [.list (zs.map (D.int .u8))] [] = some (.list ((chars zs).map (D.int .i64)), [r], []) := by
  have lN : (zs.map (D.int .u8)).length = zs.length := List.length_map ..
  have hz' := Hd.mk hz
  clear hz
  refine ⟨if chars zs = [] then .full else .own 3, ?_⟩
  refine callK (m := 32) (res := [2]) (rs := [.tmp 2]) rfl Try.func25 rfl rfl rfl rfl rfl ?_
  repeat' (first
    | simp only [*, go_seq, go_block, go_loop, go_region, go_ops_nil, go_ops, okG_some, guardG, opG, inB, sval, stake, eats, eaters, get, cval, cval1, croom, St.taken, put_slot, put_room, dem_none, entry_slot, ↓reduceIte, Nat.reduceLT, decide_true, List.filterMap_cons, List.filterMap_nil, Option.map_some, List.contains_cons, List.contains_nil, List.map_nil, Bool.or_false, Nat.reduceBEq, Bool.false_eq_true, row9, frz9, frzOf_def, frz_nil, List.length_nil, bs44e]
    | (refine drW_intro (by kernel_rfl) ?_)
    | (refine gw_intro (fun h => ?_) (fun h => ?_) <;> (try simp only [beq_true, beq_false, Bool.not_eq_eq_eq_not, Bool.not_true, Bool.not_false, Bool.not_not, decide_eq_true_eq, decide_eq_false_iff_not, ge_iff_le, gt_iff_lt] at h)))
  refine loopH (fun st => ∃ (i : Nat) (done : List Int), i ≤ zs.length ∧ st.slot 4 = .int .i64 i ∧ st.slot 0 = .list (zs.map (D.int .u8)) ∧ st.slot 3 = .list (done.map (D.int .i64)) ∧ ((done = [] ∧ st.room 3 = [.full]) ∨ (done ≠ [] ∧ st.room 3 = [.own 3])) ∧
    Hd (done.length ≤ i) ∧ ((i = 0 ∧ done = []) ∨ (0 < i ∧ Hd (done ++ rawChars (zs.drop i) = chars zs)))) (fun st => zs.length - slotI st 4) ?_ ?_
  · refine ⟨0, [], Nat.zero_le _, ?_, ?_, ?_, .inl ⟨rfl, ?_⟩, Nat.le_refl _, .inl ⟨rfl, rfl⟩⟩
    all_goals simp only [*, put_slot, put_room, dem_slot, entry_slot, ↓reduceIte, Nat.reduceEqDiff, reduceCtorEq, List.getD_cons_zero, List.map_nil]
    all_goals rfl
  · rintro st K ⟨i, done, hi, h4, h0, h3, hrm, hdl, hinv⟩ hn hx hr
    by_cases hlt : i < zs.length
    · have ok0 : BytesOK zs := hz'
      have hp : 0 < (zs.drop i).length := by rw [List.length_drop]; omega
      have hraw := rawChars_of hp
      have hsz := firstOf_size' hp
      have hcall : callL Try.prog ext9 41 [.list (zs.map (D.int .u8)), .int .i64 i] [] = some (.tuple [.int .i64 (firstOf (zs.drop i)).1, .int .i64 ((firstOf (zs.drop i)).2 : Nat)], [], []) := by
        refine callL_ext ?_
        rw [← rFirst_of (ok0.drop i) hp]
        simp only [ext9, ext9a, byI_of ok0, Option.bind_some]
        rw [if_pos ⟨by omega, by omega, by omega⟩]
        rfl
      rw [List.length_drop] at hsz
      rw [List.drop_drop] at hraw
      generalize (firstOf (zs.drop i)).1 = x at *
      generalize (firstOf (zs.drop i)).2 = y at *
      have hlt1 : (i : Int) < zs.length := by omega
      have hw1 : IntKind.i64.wrap ((i : Int) + y) = ((i + y : Nat) : Int) := by rw [wrap64 _ (by omega) (by omega)]; omega
      have hdl' : done.length ≤ i := hdl
      have hfit : (done.map (D.int .i64)).length ≤ 1073741823 := by rw [List.length_map]; omega
      have hsz3 := szI64 done
      have hap : done.map (D.int .i64) ++ [.int .i64 x] = (done ++ [x]).map (D.int .i64) := by simp
      have hy1 : i + y ≤ zs.length := by omega
      have hy2 := Hd.mk (show 1 ≤ y by omega)
      have hdn := Hd.mk (show (done ++ [x]).length ≤ i + y by simp; omega)
      have hdn2 := Hd.mk (show done.length ≤ i + y by omega)
      clear hp ok0 hsz hdl hdl'
      rcases hinv with ⟨rfl, rfl⟩ | ⟨hpi, hinv⟩
      · have hrm' : st.room 3 = [.full] := by rcases hrm with h | h; exact h.2; exact absurd rfl h.1
        clear hrm
        have hz0 : ¬ ((0 : Nat) : Int) > 0 := by omega
        by_cases hxm : x = 65279
        · have T := Hd.mk (show [] ++ rawChars (zs.drop (0 + y)) = chars zs by
            unfold chars
            rw [List.drop_zero] at hraw
            rw [hraw, hxm]
            rfl)
          have hxe : (x == 65279) = true := by simp [hxm]
          have hxn : (x != 65279) = false := by simp [hxm]
          clear hraw
          repeat' (first
    | simp only [*, go_nil, go_seq, go_cond, go_block, go_blk, go_skip, go_region, go_ops_nil, go_ops, okG_some, gwD_bool, cwD_bool, gw_true, gw_false, guardG, opG, isPtr, inB, sval, stake, eats, eaters, get, cval, cval1, croom, St.taken, put_slot, put_room, dem_none, dem_slot, dem_room, dem_room1, ↓reduceIte, Nat.reduceEqDiff, Nat.reduceLT, reduceCtorEq, decide_true, decide_false, List.filterMap_cons, List.filterMap_nil, Option.bind_some, Option.map_some, List.getElem?_cons_zero, List.getElem?_cons_succ, List.contains_cons, List.contains_nil, List.map_cons, List.map_nil, beq_self_eq_true, Bool.or_false, Bool.or_true, Bool.and_true, Nat.reduceBEq, Bool.false_eq_true, dbin, dIntBin, okR, callG, row9, frz9, frzOf_def, frz_nil, pureB, leaf, leafN, List.all_cons, List.all_nil, List.nil_append, List.append_nil, List.getElem?_nil, Nat.zero_add, Bool.and_false, gt_iff_lt, dStrBin, Int.reduceBNe, len22]
    | (refine drW_intro (by kernel_rfl) ?_)
    | (refine gw_intro (fun h => ?_) (fun h => ?_) <;> (try simp only [beq_true, beq_false, Bool.not_eq_eq_eq_not, Bool.not_true, Bool.not_false, Bool.not_not, decide_eq_true_eq, decide_eq_false_iff_not, ge_iff_le, gt_iff_lt] at h)))
          refine hn _ ⟨0 + y, [], hy1, ?_, ?_, ?_, .inl ⟨rfl, ?_⟩, hdn2, .inr ⟨?_, T⟩⟩ ?_
          · simp only [*, put_slot, ↓reduceIte, Nat.zero_add]
          · simp only [*, put_slot, dem_slot, ↓reduceIte, reduceCtorEq]
          · simp only [*, put_slot, dem_slot, ↓reduceIte, Nat.reduceEqDiff, List.map_nil]
          · simp only [*, put_room, dem_room, dem_room1, ↓reduceIte, Nat.reduceEqDiff]
          · have : 1 ≤ y := hy2
            omega
          · have : 1 ≤ y := hy2
            simp only [slotI, *, put_slot, ↓reduceIte, Int.toNat_natCast, gt_iff_lt]
            omega
        · have T := Hd.mk (show [x] ++ rawChars (zs.drop (0 + y)) = chars zs by
            unfold chars dropMark
            rw [List.drop_zero] at hraw
            rw [hraw, if_neg (by simp [hxm])]
            rfl)
          have hxn : (x != 65279) = true := by simp [hxm]
          clear hraw hxm
          repeat' (first
    | simp only [*, go_nil, go_seq, go_cond, go_block, go_blk, go_skip, go_region, go_ops_nil, go_ops, okG_some, gwD_bool, cwD_bool, gw_true, guardG, opG, isPtr, inB, sval, stake, eats, eaters, get, cval, cval1, croom, St.taken, put_slot, put_room, dem_none, dem_slot, dem_room, dem_room1, ↓reduceIte, Nat.reduceEqDiff, Nat.reduceLT, Nat.reduceLeDiff, reduceCtorEq, decide_true, decide_false, List.filterMap_cons, List.filterMap_nil, Option.bind_some, Option.map_some, List.getElem?_cons_zero, List.getElem?_cons_succ, List.contains_cons, List.contains_nil, List.map_cons, List.map_nil, beq_self_eq_true, Bool.or_false, Bool.or_true, Bool.and_true, Nat.reduceBEq, Bool.false_eq_true, dbin, dIntBin, okR, callG, row9, frz9, frzOf_def, frz_nil, pureB, leaf, leafN, List.all_cons, List.all_nil, List.nil_append, List.append_nil, List.length_nil, List.length_cons, List.getElem?_nil, dcells, Nat.zero_add, Bool.and_false, and_true, and_self, or_false, szOk_cons, szOk_nil, List.cons.injEq, List.getElem?_toArray, gt_iff_lt, dStrBin, len22, ap44, bs44]
    | (refine drW_intro (by kernel_rfl) ?_)
    | (refine gw_intro (fun h => ?_) (fun h => ?_) <;> (try simp only [beq_true, beq_false, Bool.not_eq_eq_eq_not, Bool.not_true, Bool.not_false, Bool.not_not, decide_eq_true_eq, decide_eq_false_iff_not, ge_iff_le, gt_iff_lt] at h)))
          refine hn _ ⟨0 + y, [x], hy1, ?_, ?_, ?_, .inr ⟨by simp, ?_⟩, hdn, .inr ⟨?_, T⟩⟩ ?_
          · simp only [*, put_slot, ↓reduceIte, Nat.zero_add]
          · simp only [*, put_slot, dem_slot, ↓reduceIte, reduceCtorEq]
          · simp only [*, put_slot, dem_slot, ↓reduceIte, Nat.reduceEqDiff, List.map_nil, List.map_cons]
          · simp only [*, put_room, dem_room, ↓reduceIte, Nat.reduceEqDiff]
          · have : 1 ≤ y := hy2
            omega
          · have : 1 ≤ y := hy2
            simp only [slotI, *, put_slot, ↓reduceIte, Int.toNat_natCast, gt_iff_lt]
            omega
      · have hz0 : (i : Int) > 0 := by omega
        have T := Hd.mk (show (done ++ [x]) ++ rawChars (zs.drop (i + y)) = chars zs by
          have h1 : done ++ rawChars (zs.drop i) = chars zs := hinv
          rw [hraw] at h1
          simpa using h1)
        clear hraw hinv
        rcases hrm with ⟨hd, hrm⟩ | ⟨hd, hrm⟩
        all_goals
          have HD := Hd.mk hd
          clear hd
          repeat' (first
    | simp only [*, go_nil, go_seq, go_cond, go_block, go_blk, go_skip, go_region, go_ops_nil, go_ops, okG_some, gwD_bool, cwD_bool, gw_true, gw_false, guardG, opG, isPtr, inB, sval, stake, eats, eaters, get, cval, cval1, croom, St.taken, put_slot, put_room, dem_none, dem_slot, dem_room, dem_room1, ↓reduceIte, Nat.reduceEqDiff, Nat.reduceLT, Nat.reduceLeDiff, reduceCtorEq, decide_true, List.filterMap_cons, List.filterMap_nil, Option.bind_some, Option.map_some, List.getElem?_cons_zero, List.getElem?_cons_succ, List.contains_cons, List.contains_nil, List.map_cons, List.map_nil, beq_self_eq_true, Bool.or_false, Bool.or_true, Bool.and_true, Nat.reduceBEq, Bool.false_eq_true, dbin, dIntBin, okR, callG, row9, frz9, frzOf_def, frz_nil, beq_false, Bool.not_true, pureB, leaf, leafN, List.all_cons, List.all_nil, List.nil_append, List.append_nil, List.length_nil, List.length_cons, List.getElem?_nil, dcells, Nat.zero_add, Bool.and_false, and_true, and_self, or_true, or_false, szOk_cons, List.cons.injEq, List.getElem?_toArray, gt_iff_lt, dStrBin, len22, ap44, bs44]
    | (refine drW_intro (by kernel_rfl) ?_)
    | (refine gw_intro (fun h => ?_) (fun h => ?_) <;> (try simp only [beq_true, beq_false, Bool.not_eq_eq_eq_not, Bool.not_true, Bool.not_false, Bool.not_not, decide_eq_true_eq, decide_eq_false_iff_not, ge_iff_le, gt_iff_lt] at h)))
          refine hn _ ⟨i + y, done ++ [x], hy1, ?_, ?_, ?_, .inr ⟨by simp, ?_⟩, hdn, .inr ⟨by omega, T⟩⟩ ?_
          · simp only [*, put_slot, ↓reduceIte]
          · simp only [*, put_slot, dem_slot, ↓reduceIte, reduceCtorEq]
          · simp only [*, put_slot, dem_slot, ↓reduceIte, Nat.reduceEqDiff]
          · simp only [*, put_room, dem_room, ↓reduceIte, Nat.reduceEqDiff]
          · have : 1 ≤ y := hy2
            simp only [slotI, *, put_slot, ↓reduceIte, Int.toNat_natCast, gt_iff_lt]
            omega
    · have hge : ¬ (i : Int) < zs.length := by omega
      have T : done = chars zs := by
        rcases hinv with ⟨rfl, rfl⟩ | ⟨_, hinv⟩
        · have : zs = [] := List.length_eq_zero_iff.1 (by omega)
          rw [this]; rfl
        · have h1 : done ++ rawChars (zs.drop i) = chars zs := hinv
          rw [List.drop_eq_nil_of_le (by omega), rawChars_nil, List.append_nil] at h1
          exact h1
      clear hinv
      rw [T] at h3 hrm
      clear T hdl
      repeat' (first
    | simp only [*, go_nil, go_seq, go_cond, go_exit, go_xcode, go_region, go_ops_nil, go_ops, okG_some, cwD_bool, gw_false, guardG, opG, isPtr, inB, sval, stake, eats, eaters, get, St.taken, put_slot, dem_none, ↓reduceIte, Nat.reduceEqDiff, Nat.reduceLT, reduceCtorEq, decide_true, decide_false, List.filterMap_cons, List.filterMap_nil, Option.map_some, List.contains_cons, List.contains_nil, List.map_cons, List.map_nil, Bool.or_false, Nat.reduceBEq, Bool.false_eq_true, dbin, dIntBin, row9, frz9, frzOf_def, frz_nil, Bool.and_false, len22]
    | (refine drW_intro (by kernel_rfl) ?_)
    | (refine gw_intro (fun h => ?_) (fun h => ?_) <;> (try simp only [beq_true, beq_false, Bool.not_eq_eq_eq_not, Bool.not_true, Bool.not_false, Bool.not_not, decide_eq_true_eq, decide_eq_false_iff_not, ge_iff_le, gt_iff_lt] at h)))
      refine hx _ _ ?_
      repeat' (first
    | simp only [*, go_seq, go_retc, go_xblk, go_region, go_ops_nil, go_ops, okG_some, guardG, opG, inB, sval, stake, eats, eaters, get, St.taken, put_slot, put_room, put_box, dem_box, endQ, endR, endV, rvars, rvar, room1, ↓reduceIte, Nat.reduceEqDiff, Nat.reduceLT, decide_true, List.filterMap_cons, List.filterMap_nil, List.contains_cons, List.contains_nil, List.map_nil, beq_self_eq_true, Bool.or_false, Nat.reduceBEq, Bool.false_eq_true, row9, frz9, frzOf_def, frz_nil, pureB, leaf, leafN, List.range_zero, Bool.and_false, and_true]
    | (refine drW_intro (by kernel_rfl) ?_)
    | (refine gw_intro (fun h => ?_) (fun h => ?_) <;> (try simp only [beq_true, beq_false, Bool.not_eq_eq_eq_not, Bool.not_true, Bool.not_false, Bool.not_not, decide_eq_true_eq, decide_eq_false_iff_not, ge_iff_le, gt_iff_lt] at h)))
      rcases hrm with ⟨hz, e⟩ | ⟨hz, e⟩ <;> rw [e]
      · rw [if_pos hz]
        rfl
      · rw [if_neg hz]
        rfl
theorem prep_end (l : List Int) : prep (l.drop l.length) = [] := by rw [List.drop_length]; rfl
set_option maxHeartbeats 8000000 in
theorem prep_L (l : List Int) (hl : l.length ≤ 100000) : ∃ r, callL Try.prog ext9 24 [LI l] [] = some (LI (prep l), [r], []) := by
  have lN := LIlen l
  refine ⟨if prep l = [] then .full else .own 3, ?_⟩
  refine callK (m := 52) (res := [2]) (rs := [.tmp 2]) rfl Try.func24 rfl rfl rfl rfl rfl ?_
  repeat' (first
    | simp only [*, go_seq, go_block, go_loop, go_region, go_ops_nil, go_ops, okG_some, guardG, opG, inB, sval, stake, eats, eaters, get, cval, cval1, croom, St.taken, put_slot, put_room, dem_none, entry_slot, ↓reduceIte, Nat.reduceLT, decide_true, List.filterMap_cons, List.filterMap_nil, Option.map_some, List.contains_cons, List.contains_nil, List.map_nil, Bool.or_false, Nat.reduceBEq, Bool.false_eq_true, row9, frz9, frzOf_def, frz_nil, List.length_nil, bs44e]
    | (refine drW_intro (by kernel_rfl) ?_)
    | (refine gw_intro (fun h => ?_) (fun h => ?_) <;> (try simp only [beq_true, beq_false, Bool.not_eq_eq_eq_not, Bool.not_true, Bool.not_false, Bool.not_not, decide_eq_true_eq, decide_eq_false_iff_not, ge_iff_le, gt_iff_lt] at h)))
  refine loopH (fun st => ∃ (i : Nat) (done : List Int), i ≤ l.length ∧ st.slot 4 = .int .i64 i ∧ st.slot 0 = LI l ∧ st.slot 3 = LI done ∧ ((Hd (done = []) ∧ st.room 3 = [.full]) ∨ (Hd (done ≠ []) ∧ st.room 3 = [.own 3])) ∧
    Hd (done.length ≤ i) ∧ Hd (done ++ prep (l.drop i) = prep l)) (fun st => l.length - slotI st 4) ?_ ?_
  · refine ⟨0, [], Nat.zero_le _, ?_, ?_, ?_, .inl ⟨Hd.mk rfl, ?_⟩, Hd.mk (Nat.le_refl _), Hd.mk rfl⟩
    all_goals simp only [*, put_slot, put_room, dem_slot, entry_slot, ↓reduceIte, Nat.reduceEqDiff, reduceCtorEq, List.getD_cons_zero]
    all_goals rfl
  · rintro st K ⟨i, done, hi, h4, h0, h3, hrm, hdl, hinv⟩ hn hx hr
    by_cases hlt : i < l.length
    · have hpd := prep_drop hlt
      have hlt1 : (i : Int) < l.length := by omega
      have hw1 := w1 i (by omega)
      have hrt := right_L (l.getD i 0)
      have hdl' : done.length ≤ i := hdl
      have hinv' : done ++ prep (l.drop i) = prep l := hinv
      have hfit : (done.map (D.int .i64)).length ≤ 1073741823 := by rw [List.length_map]; omega
      have hsz3 := szI64 done
      have hg : (l.map (D.int .i64)).getD i .bad = .int .i64 (l.getD i 0) := by simp [List.getD, hlt]
      have hfin : ∀ c : Int, (done.map (D.int .i64)) ++ [.int .i64 c] = (done ++ [c]).map (D.int .i64) := by simp
      have hdn : ∀ c : Int, (done ++ [c]).length ≤ i + 1 := fun c => by simp; omega
      have Hdn := Hd.mk hdn
      have hdn2 := Hd.mk (show done.length ≤ i + 1 by omega)
      by_cases h13 : l.getD i 0 = 13
      · have b13 : (l.getD i 0 == 13) = true := beq_iff_eq.2 h13
        rw [h13] at hg
        by_cases h2 : i + 1 < l.length
        · have h2' : ((i + 1 : Nat) : Int) < l.length := by omega
          have hg1 : (l.map (D.int .i64)).getD (i + 1) .bad = .int .i64 (l.getD (i + 1) 0) := by simp [List.getD, h2]
          by_cases h10 : l.getD (i + 1) 0 = 10
          · rw [h10] at hg1
            have hs : l[i + 1]? = some 10 := by
              rw [List.getElem?_eq_getElem h2]
              simpa [List.getD, h2] using h10
            have T := Hd.mk (show done ++ prep (l.drop (i + 1)) = prep l by
              rw [hpd, if_pos ⟨h13, hs⟩] at hinv'
              exact hinv')
            clear hpd hinv hinv' hdl hdl' hfin hdn hs h10 h13 b13 h2
            repeat' (first
    | simp only [*, go_nil, go_seq, go_cond, go_block, go_skip, go_exit, go_xcode, go_xblk, go_region, go_ops_nil, go_ops, okG_some, gwD_bool, cwD_bool, gw_true, guardG, opG, isPtr, inB, sval, stake, eats, eaters, get, cval, cval1, croom, St.taken, put_slot, put_room, dem_none, dem_slot, dem_room, setBox_slot, setBox_room, ↓reduceIte, Nat.reduceEqDiff, Nat.reduceLT, reduceCtorEq, decide_true, List.filterMap_cons, List.filterMap_nil, Option.bind_some, Option.map_some, List.getElem?_cons_zero, List.getElem?_cons_succ, List.contains_cons, List.contains_nil, List.map_cons, List.map_nil, beq_self_eq_true, Bool.or_false, Nat.reduceBEq, Bool.false_eq_true, dbin, dIntBin, okR, callG, row9, frz9, frzOf_def, frz_nil, List.length_nil, List.length_cons, dcells, Nat.zero_add, Bool.and_false, Int.natCast_nonneg, Int.toNat_natCast, and_self, dStrBin, dp3, ia44, len44]
    | (refine drW_intro (by kernel_rfl) ?_)
    | (refine gw_intro (fun h => ?_) (fun h => ?_) <;> (try simp only [beq_true, beq_false, Bool.not_eq_eq_eq_not, Bool.not_true, Bool.not_false, Bool.not_not, decide_eq_true_eq, decide_eq_false_iff_not, ge_iff_le, gt_iff_lt] at h)))
            refine hn _ ⟨i + 1, done, by omega, ?_, ?_, ?_, ?_, hdn2, T⟩ ?_
            · simp only [*, put_slot, ↓reduceIte]
            · simp only [*, put_slot, dem_slot, ↓reduceIte, reduceCtorEq]
            · simp only [*, put_slot, dem_slot, ↓reduceIte, Nat.reduceEqDiff]
            · simp only [*, put_room, dem_room, ↓reduceIte, Nat.reduceEqDiff]
            · simp only [slotI, *, put_slot, ↓reduceIte, Int.toNat_natCast]
              omega
          · have b10 : (l.getD (i + 1) 0 == 10) = false := beq_eq_false_iff_ne.2 h10
            have hs : ¬ l[i + 1]? = some 10 := by
              rw [List.getElem?_eq_getElem h2]
              simpa [List.getD, h2] using h10
            have hs' := Hd.mk hs
            clear hs h10 h2
            have T := Hd.mk (show (done ++ [10]) ++ prep (l.drop (i + 1)) = prep l by
              rw [hpd, if_neg (by exact fun h => hs' h.2), show prepC (l.getD i 0) = 10 by rw [h13]; rfl] at hinv'
              simpa using hinv')
            have e10 := right_L 10
            have e10' : rightC 10 = true := by decide
            skip
            have hF := hfin (10)
            have hD := Hdn
            clear hpd hinv hinv' hdl hdl' hfin hdn Hdn
            rcases hrm with ⟨hd, hrm⟩ | ⟨hd, hrm⟩
            all_goals
              clear h13 b13
              repeat' (first
    | simp only [*, go_nil, go_seq, go_cond, go_block, go_blk, go_skip, go_region, go_ops_nil, go_ops, okG_some, gwD_bool, cwD_bool, gw_true, gw_false, guardG, opG, isPtr, inB, sval, stake, eats, eaters, get, cval, cval1, croom, St.taken, put_slot, put_room, dem_none, dem_slot, dem_room, setBox_slot, setBox_room, ↓reduceIte, Nat.reduceEqDiff, Nat.reduceLT, Nat.reduceLeDiff, reduceCtorEq, decide_true, List.filterMap_cons, List.filterMap_nil, Option.bind_some, Option.map_some, List.getElem?_cons_zero, List.getElem?_cons_succ, List.contains_cons, List.contains_nil, List.map_cons, List.map_nil, beq_self_eq_true, Bool.or_false, Bool.and_true, Nat.reduceBEq, Bool.false_eq_true, dbin, dIntBin, okR, callG, row9, frz9, frzOf_def, frz_nil, beq_false, Bool.not_true, pureB, leaf, leafN, List.all_cons, List.all_nil, List.nil_append, List.append_nil, List.length_nil, List.length_cons, dun, dcells, Nat.zero_add, Bool.and_false, and_true, Int.natCast_nonneg, Int.toNat_natCast, and_self, or_true, or_false, szOk_cons, List.cons.injEq, List.getElem?_toArray, dStrBin, Int.reduceBEq, dp3, ia44, len44, ap44, bs44]
    | (refine drW_intro (by kernel_rfl) ?_)
    | (refine gw_intro (fun h => ?_) (fun h => ?_) <;> (try simp only [beq_true, beq_false, Bool.not_eq_eq_eq_not, Bool.not_true, Bool.not_false, Bool.not_not, decide_eq_true_eq, decide_eq_false_iff_not, ge_iff_le, gt_iff_lt] at h)))
              refine hn _ ⟨i + 1, done ++ [10], by omega, ?_, ?_, ?_, .inr ⟨Hd.mk (by simp), ?_⟩, (show ∀ c : Int, (done ++ [c]).length ≤ i + 1 from hD) _, T⟩ ?_
              · simp only [*, put_slot, ↓reduceIte]
              · simp only [*, put_slot, dem_slot, ↓reduceIte, reduceCtorEq]
              · simp only [*, put_slot, dem_slot, ↓reduceIte, Nat.reduceEqDiff]
              · simp only [*, put_room, dem_room, ↓reduceIte, Nat.reduceEqDiff]
              · simp only [slotI, *, put_slot, ↓reduceIte, Int.toNat_natCast]
                omega
        · have h2' : ¬ ((i + 1 : Nat) : Int) < l.length := by omega
          have hs : ¬ l[i + 1]? = some 10 := by
            rw [List.getElem?_eq_none (by omega)]
            simp
          have hs' := Hd.mk hs
          clear hs h2
          have T := Hd.mk (show (done ++ [10]) ++ prep (l.drop (i + 1)) = prep l by
            rw [hpd, if_neg (by exact fun h => hs' h.2), show prepC (l.getD i 0) = 10 by rw [h13]; rfl] at hinv'
            simpa using hinv')
          have e10 := right_L 10
          have e10' : rightC 10 = true := by decide
          skip
          have hF := hfin (10)
          have hD := Hdn
          clear hpd hinv hinv' hdl hdl' hfin hdn Hdn
          rcases hrm with ⟨hd, hrm⟩ | ⟨hd, hrm⟩
          all_goals
            clear h13 b13
            repeat' (first
    | simp only [*, go_nil, go_seq, go_cond, go_block, go_blk, go_skip, go_region, go_ops_nil, go_ops, okG_some, gwD_bool, cwD_bool, gw_true, gw_false, guardG, opG, isPtr, inB, sval, stake, eats, eaters, get, cval, cval1, croom, St.taken, put_slot, put_room, dem_none, dem_slot, dem_room, setBox_slot, setBox_room, ↓reduceIte, Nat.reduceEqDiff, Nat.reduceLT, Nat.reduceLeDiff, reduceCtorEq, decide_true, decide_false, List.filterMap_cons, List.filterMap_nil, Option.bind_some, Option.map_some, List.getElem?_cons_zero, List.getElem?_cons_succ, List.contains_cons, List.contains_nil, List.map_cons, List.map_nil, beq_self_eq_true, Bool.or_false, Bool.and_true, Nat.reduceBEq, Bool.false_eq_true, dbin, dIntBin, okR, callG, row9, frz9, frzOf_def, frz_nil, beq_true, beq_false, Bool.not_true, pureB, leaf, leafN, List.all_cons, List.all_nil, List.nil_append, List.append_nil, List.length_nil, List.length_cons, dun, dcells, Nat.zero_add, Bool.and_false, and_true, Int.natCast_nonneg, Int.toNat_natCast, and_self, or_true, or_false, szOk_cons, List.cons.injEq, List.getElem?_toArray, dStrBin, Int.reduceBEq, dp3, ia44, len44, ap44, bs44]
    | (refine drW_intro (by kernel_rfl) ?_)
    | (refine gw_intro (fun h => ?_) (fun h => ?_) <;> (try simp only [beq_true, beq_false, Bool.not_eq_eq_eq_not, Bool.not_true, Bool.not_false, Bool.not_not, decide_eq_true_eq, decide_eq_false_iff_not, ge_iff_le, gt_iff_lt] at h)))
            refine hn _ ⟨i + 1, done ++ [10], by omega, ?_, ?_, ?_, .inr ⟨Hd.mk (by simp), ?_⟩, (show ∀ c : Int, (done ++ [c]).length ≤ i + 1 from hD) _, T⟩ ?_
            · simp only [*, put_slot, ↓reduceIte]
            · simp only [*, put_slot, dem_slot, ↓reduceIte, reduceCtorEq]
            · simp only [*, put_slot, dem_slot, ↓reduceIte, Nat.reduceEqDiff]
            · simp only [*, put_room, dem_room, ↓reduceIte, Nat.reduceEqDiff]
            · simp only [slotI, *, put_slot, ↓reduceIte, Int.toNat_natCast]
              omega
      · have b13 : (l.getD i 0 == 13) = false := beq_eq_false_iff_ne.2 h13
        have h13' := Hd.mk h13
        clear h13
        by_cases h12 : l.getD i 0 = 12
        · have b12 : (l.getD i 0 == 12) = true := beq_iff_eq.2 h12
          rw [h12] at hg
          have T := Hd.mk (show (done ++ [10]) ++ prep (l.drop (i + 1)) = prep l by
            rw [hpd, if_neg (by exact fun h => h13' h.1), show prepC (l.getD i 0) = 10 by rw [h12]; rfl] at hinv'
            simpa using hinv')
          have e10 := right_L 10
          have e10' : rightC 10 = true := by decide
          skip
          have hF := hfin (10)
          have hD := Hdn
          clear hpd hinv hinv' hdl hdl' hfin hdn Hdn
          rcases hrm with ⟨hd, hrm⟩ | ⟨hd, hrm⟩
          all_goals
            clear h12 b12 b13
            repeat' (first
    | simp only [*, go_nil, go_seq, go_cond, go_block, go_blk, go_skip, go_region, go_ops_nil, go_ops, okG_some, gwD_bool, cwD_bool, gw_true, gw_false, guardG, opG, isPtr, inB, sval, stake, eats, eaters, get, cval, cval1, croom, St.taken, put_slot, put_room, dem_none, dem_slot, dem_room, setBox_slot, setBox_room, ↓reduceIte, Nat.reduceEqDiff, Nat.reduceLT, Nat.reduceLeDiff, reduceCtorEq, decide_true, List.filterMap_cons, List.filterMap_nil, Option.bind_some, Option.map_some, List.getElem?_cons_zero, List.getElem?_cons_succ, List.contains_cons, List.contains_nil, List.map_cons, List.map_nil, beq_self_eq_true, Bool.or_false, Bool.and_true, Nat.reduceBEq, Bool.false_eq_true, dbin, dIntBin, okR, callG, row9, frz9, frzOf_def, frz_nil, beq_true, Bool.not_true, pureB, leaf, leafN, List.all_cons, List.all_nil, List.nil_append, List.append_nil, List.length_nil, List.length_cons, dun, dcells, Nat.zero_add, Bool.and_false, and_true, Int.natCast_nonneg, Int.toNat_natCast, and_self, or_true, or_false, szOk_cons, List.cons.injEq, List.getElem?_toArray, dStrBin, Int.reduceBEq, dp3, ia44, len44, ap44, bs44]
    | (refine drW_intro (by kernel_rfl) ?_)
    | (refine gw_intro (fun h => ?_) (fun h => ?_) <;> (try simp only [beq_true, beq_false, Bool.not_eq_eq_eq_not, Bool.not_true, Bool.not_false, Bool.not_not, decide_eq_true_eq, decide_eq_false_iff_not, ge_iff_le, gt_iff_lt] at h)))
            refine hn _ ⟨i + 1, done ++ [10], by omega, ?_, ?_, ?_, .inr ⟨Hd.mk (by simp), ?_⟩, (show ∀ c : Int, (done ++ [c]).length ≤ i + 1 from hD) _, T⟩ ?_
            · simp only [*, put_slot, ↓reduceIte]
            · simp only [*, put_slot, dem_slot, ↓reduceIte, reduceCtorEq]
            · simp only [*, put_slot, dem_slot, ↓reduceIte, Nat.reduceEqDiff]
            · simp only [*, put_room, dem_room, ↓reduceIte, Nat.reduceEqDiff]
            · simp only [slotI, *, put_slot, ↓reduceIte, Int.toNat_natCast]
              omega
        · have b12 : (l.getD i 0 == 12) = false := beq_eq_false_iff_ne.2 h12
          have h12' := Hd.mk h12
          clear h12
          by_cases h0c : l.getD i 0 = 0
          · have b0 : (l.getD i 0 == 0) = true := beq_iff_eq.2 h0c
            rw [h0c] at hg
            have T := Hd.mk (show (done ++ [65533]) ++ prep (l.drop (i + 1)) = prep l by
              rw [hpd, if_neg (by exact fun h => h13' h.1), show prepC (l.getD i 0) = 65533 by rw [h0c]; rfl] at hinv'
              simpa using hinv')
            have e10 := right_L 10
            have e10' : rightC 10 = true := by decide
            skip
            have hF := hfin (65533)
            have hD := Hdn
            clear hpd hinv hinv' hdl hdl' hfin hdn Hdn
            rcases hrm with ⟨hd, hrm⟩ | ⟨hd, hrm⟩
            all_goals
              clear h0c b0 b12 b13
              repeat' (first
    | simp only [*, go_nil, go_seq, go_cond, go_block, go_blk, go_skip, go_region, go_ops_nil, go_ops, okG_some, gwD_bool, cwD_bool, gw_true, gw_false, guardG, opG, isPtr, inB, sval, stake, eats, eaters, get, cval, cval1, croom, St.taken, put_slot, put_room, dem_none, dem_slot, dem_room, setBox_slot, setBox_room, ↓reduceIte, Nat.reduceEqDiff, Nat.reduceLT, Nat.reduceLeDiff, reduceCtorEq, decide_true, List.filterMap_cons, List.filterMap_nil, Option.bind_some, Option.map_some, List.getElem?_cons_zero, List.getElem?_cons_succ, List.contains_cons, List.contains_nil, List.map_cons, List.map_nil, beq_self_eq_true, Bool.or_false, Nat.reduceBEq, Bool.false_eq_true, dbin, dIntBin, okR, callG, row9, frz9, frzOf_def, frz_nil, beq_true, beq_false, Bool.not_true, List.nil_append, List.length_nil, List.length_cons, dun, dcells, Nat.zero_add, Bool.and_false, and_true, Int.natCast_nonneg, Int.toNat_natCast, and_self, or_true, or_false, szOk_cons, List.cons.injEq, List.getElem?_toArray, dStrBin, Int.reduceBEq, dp3, ia44, len44, ap44, bs44]
    | (refine drW_intro (by kernel_rfl) ?_)
    | (refine gw_intro (fun h => ?_) (fun h => ?_) <;> (try simp only [beq_true, beq_false, Bool.not_eq_eq_eq_not, Bool.not_true, Bool.not_false, Bool.not_not, decide_eq_true_eq, decide_eq_false_iff_not, ge_iff_le, gt_iff_lt] at h)))
              refine hn _ ⟨i + 1, done ++ [65533], by omega, ?_, ?_, ?_, .inr ⟨Hd.mk (by simp), ?_⟩, (show ∀ c : Int, (done ++ [c]).length ≤ i + 1 from hD) _, T⟩ ?_
              · simp only [*, put_slot, ↓reduceIte]
              · simp only [*, put_slot, dem_slot, ↓reduceIte, reduceCtorEq]
              · simp only [*, put_slot, dem_slot, ↓reduceIte, Nat.reduceEqDiff]
              · simp only [*, put_room, dem_room, ↓reduceIte, Nat.reduceEqDiff]
              · simp only [slotI, *, put_slot, ↓reduceIte, Int.toNat_natCast]
                omega
          · have b0 : (l.getD i 0 == 0) = false := beq_eq_false_iff_ne.2 h0c
            have h0c' := Hd.mk h0c
            clear h0c
            cases hR : rightC (l.getD i 0) with
            | true =>
              have T := Hd.mk (show (done ++ [l.getD i 0]) ++ prep (l.drop (i + 1)) = prep l by
                rw [hpd, if_neg (by exact fun h => h13' h.1), show prepC (l.getD i 0) = l.getD i 0 by unfold prepC fixC; rw [if_neg (by have a1 : ¬ l.getD i 0 = 13 := h13'; have a2 : ¬ l.getD i 0 = 12 := h12'; omega), if_neg h0c', hR]; rfl] at hinv'
                simpa using hinv')
              have e10 := right_L 10
              have e10' : rightC 10 = true := by decide
              rw [hR] at hrt
              have hF := hfin (l.getD i 0)
              have hD := Hdn
              clear hpd hinv hinv' hdl hdl' hfin hdn Hdn
              rcases hrm with ⟨hd, hrm⟩ | ⟨hd, hrm⟩
              all_goals
                skip
                repeat' (first
    | simp only [*, go_nil, go_seq, go_cond, go_block, go_blk, go_skip, go_region, go_ops_nil, go_ops, okG_some, gwD_bool, cwD_bool, gw_true, gw_false, guardG, opG, isPtr, inB, sval, stake, eats, eaters, get, cval, cval1, croom, St.taken, put_slot, put_room, dem_none, dem_slot, dem_room, setBox_slot, setBox_room, ↓reduceIte, Nat.reduceEqDiff, Nat.reduceLT, Nat.reduceLeDiff, reduceCtorEq, decide_true, List.filterMap_cons, List.filterMap_nil, Option.bind_some, Option.map_some, List.getElem?_cons_zero, List.getElem?_cons_succ, List.contains_cons, List.contains_nil, List.map_cons, List.map_nil, beq_self_eq_true, Bool.or_false, Bool.and_true, Nat.reduceBEq, Bool.false_eq_true, dbin, dIntBin, okR, callG, row9, frz9, frzOf_def, frz_nil, beq_true, Bool.not_true, pureB, leaf, leafN, List.all_cons, List.all_nil, List.nil_append, List.append_nil, List.length_nil, List.length_cons, dun, dcells, Nat.zero_add, Bool.and_false, and_true, Int.natCast_nonneg, Int.toNat_natCast, and_self, or_true, or_false, szOk_cons, List.cons.injEq, List.getElem?_toArray, dStrBin, dp3, ia44, len44, ap44, bs44]
    | (refine drW_intro (by kernel_rfl) ?_)
    | (refine gw_intro (fun h => ?_) (fun h => ?_) <;> (try simp only [beq_true, beq_false, Bool.not_eq_eq_eq_not, Bool.not_true, Bool.not_false, Bool.not_not, decide_eq_true_eq, decide_eq_false_iff_not, ge_iff_le, gt_iff_lt] at h)))
                refine hn _ ⟨i + 1, done ++ [l.getD i 0], by omega, ?_, ?_, ?_, .inr ⟨Hd.mk (by simp), ?_⟩, (show ∀ c : Int, (done ++ [c]).length ≤ i + 1 from hD) _, T⟩ ?_
                · simp only [*, put_slot, ↓reduceIte]
                · simp only [*, put_slot, dem_slot, ↓reduceIte, reduceCtorEq]
                · simp only [*, put_slot, dem_slot, ↓reduceIte, Nat.reduceEqDiff]
                · simp only [*, put_room, dem_room, ↓reduceIte, Nat.reduceEqDiff]
                · simp only [slotI, *, put_slot, ↓reduceIte, Int.toNat_natCast]
                  omega
            | false =>
              have T := Hd.mk (show (done ++ [65533]) ++ prep (l.drop (i + 1)) = prep l by
                rw [hpd, if_neg (by exact fun h => h13' h.1), show prepC (l.getD i 0) = 65533 by unfold prepC fixC; rw [if_neg (by have a1 : ¬ l.getD i 0 = 13 := h13'; have a2 : ¬ l.getD i 0 = 12 := h12'; omega), if_neg h0c', hR]; rfl] at hinv'
                simpa using hinv')
              have e10 := right_L 10
              have e10' : rightC 10 = true := by decide
              rw [hR] at hrt
              have hF := hfin (65533)
              have hD := Hdn
              clear hpd hinv hinv' hdl hdl' hfin hdn Hdn
              rcases hrm with ⟨hd, hrm⟩ | ⟨hd, hrm⟩
              all_goals
                skip
                repeat' (first
    | simp only [*, go_nil, go_seq, go_cond, go_block, go_blk, go_skip, go_region, go_ops_nil, go_ops, okG_some, gwD_bool, cwD_bool, gw_true, gw_false, guardG, opG, isPtr, inB, sval, stake, eats, eaters, get, cval, cval1, croom, St.taken, put_slot, put_room, dem_none, dem_slot, dem_room, setBox_slot, setBox_room, ↓reduceIte, Nat.reduceEqDiff, Nat.reduceLT, Nat.reduceLeDiff, reduceCtorEq, decide_true, List.filterMap_cons, List.filterMap_nil, Option.bind_some, Option.map_some, List.getElem?_cons_zero, List.getElem?_cons_succ, List.contains_cons, List.contains_nil, List.map_cons, List.map_nil, beq_self_eq_true, Bool.or_false, Bool.and_true, Nat.reduceBEq, Bool.false_eq_true, dbin, dIntBin, okR, callG, row9, frz9, frzOf_def, frz_nil, beq_true, Bool.not_false, pureB, leaf, leafN, List.all_cons, List.all_nil, List.nil_append, List.append_nil, List.length_nil, List.length_cons, dun, dcells, Nat.zero_add, Bool.and_false, and_true, Int.natCast_nonneg, Int.toNat_natCast, and_self, or_true, or_false, szOk_cons, List.cons.injEq, List.getElem?_toArray, dStrBin, dp3, ia44, len44, ap44, bs44]
    | (refine drW_intro (by kernel_rfl) ?_)
    | (refine gw_intro (fun h => ?_) (fun h => ?_) <;> (try simp only [beq_true, beq_false, Bool.not_eq_eq_eq_not, Bool.not_true, Bool.not_false, Bool.not_not, decide_eq_true_eq, decide_eq_false_iff_not, ge_iff_le, gt_iff_lt] at h)))
                refine hn _ ⟨i + 1, done ++ [65533], by omega, ?_, ?_, ?_, .inr ⟨Hd.mk (by simp), ?_⟩, (show ∀ c : Int, (done ++ [c]).length ≤ i + 1 from hD) _, T⟩ ?_
                · simp only [*, put_slot, ↓reduceIte]
                · simp only [*, put_slot, dem_slot, ↓reduceIte, reduceCtorEq]
                · simp only [*, put_slot, dem_slot, ↓reduceIte, Nat.reduceEqDiff]
                · simp only [*, put_room, dem_room, ↓reduceIte, Nat.reduceEqDiff]
                · simp only [slotI, *, put_slot, ↓reduceIte, Int.toNat_natCast]
                  omega
    · have hge : ¬ (i : Int) < l.length := by omega
      have T : done = prep l := by
        have h1 : done ++ prep (l.drop i) = prep l := hinv
        rw [List.drop_eq_nil_of_le (by omega), prep, List.append_nil] at h1
        exact h1
      clear hinv
      rw [T] at h3 hrm
      clear T hdl
      repeat' (first
    | simp only [*, go_nil, go_seq, go_cond, go_exit, go_xcode, go_region, go_ops_nil, go_ops, okG_some, cwD_bool, gw_false, guardG, opG, isPtr, inB, sval, stake, eats, eaters, get, St.taken, put_slot, dem_none, ↓reduceIte, Nat.reduceEqDiff, Nat.reduceLT, reduceCtorEq, decide_true, decide_false, List.filterMap_cons, List.filterMap_nil, Option.map_some, List.contains_cons, List.contains_nil, List.map_cons, List.map_nil, Bool.or_false, Nat.reduceBEq, Bool.false_eq_true, dbin, dIntBin, row9, frz9, frzOf_def, frz_nil, Bool.and_false, len44]
    | (refine drW_intro (by kernel_rfl) ?_)
    | (refine gw_intro (fun h => ?_) (fun h => ?_) <;> (try simp only [beq_true, beq_false, Bool.not_eq_eq_eq_not, Bool.not_true, Bool.not_false, Bool.not_not, decide_eq_true_eq, decide_eq_false_iff_not, ge_iff_le, gt_iff_lt] at h)))
      refine hx _ _ ?_
      repeat' (first
    | simp only [*, go_seq, go_retc, go_xblk, go_region, go_ops_nil, go_ops, okG_some, guardG, opG, inB, sval, stake, eats, eaters, get, St.taken, put_slot, put_room, put_box, dem_box, endQ, endR, endV, rvars, rvar, room1, ↓reduceIte, Nat.reduceEqDiff, Nat.reduceLT, decide_true, List.filterMap_cons, List.filterMap_nil, List.contains_cons, List.contains_nil, List.map_nil, beq_self_eq_true, Bool.or_false, Nat.reduceBEq, Bool.false_eq_true, row9, frz9, frzOf_def, frz_nil, pureB, leaf, leafN, List.range_zero, Bool.and_false, and_true]
    | (refine drW_intro (by kernel_rfl) ?_)
    | (refine gw_intro (fun h => ?_) (fun h => ?_) <;> (try simp only [beq_true, beq_false, Bool.not_eq_eq_eq_not, Bool.not_true, Bool.not_false, Bool.not_not, decide_eq_true_eq, decide_eq_false_iff_not, ge_iff_le, gt_iff_lt] at h)))
      rcases hrm with ⟨hz, e⟩ | ⟨hz, e⟩ <;> rw [e]
      · have hz' : prep l = [] := hz
        rw [if_pos hz']
        rfl
      · have hz' : prep l ≠ [] := hz
        rw [if_neg hz']
        rfl
end Go.Av
/- Chapter 19: the document's tokens of characters, and of bytes. -/
set_option linter.unusedSimpArgs false
set_option linter.unusedVariables false
set_option linter.unusedSectionVars false
set_option maxRecDepth 100000
namespace Go.Av
open Go.Proofs Go.Proofs.Ytaldmffahmomoaa Go.RowKit
/-- The tokens of characters, from a place on. -/
def allT (l : List Int) : Nat → Nat → List Tk
  | 0, _ => []
  | n + 1, a => nextF l a :: if (nextF l a).kind = 0 then [] else allT l n (nextF l a).to
def tokens (l : List Int) : List Tk := allT l (l.length + 1) 0
theorem szTk (ts : List Tk) : szOk 6 (ts.map Tk.d) = true := by cases ts <;> rfl
theorem allT_length {l : List Int} : ∀ (n a : Nat), (allT l n a).length ≤ n
  | 0, _ => by simp [allT]
  | n + 1, a => by
    unfold allT
    split
    · simp
    · have := allT_length (l := l) n (nextF l a).to
      simp only [List.length_cons]; omega
theorem nextF_to {l : List Int} {a : Nat} (ha : a ≤ l.length) (hk : (nextF l a).kind ≠ 0) : a < (nextF l a).to ∧ (nextF l a).to ≤ l.length := by
  rcases next_on ha with h | h
  · exact absurd h hk
  · exact h.2
theorem allT_fuel {l : List Int} : ∀ (n m a : Nat), a ≤ l.length → l.length + 1 - a ≤ n → l.length + 1 - a ≤ m → allT l n a = allT l m a
  | 0, _, a, h0, h1, _ => by omega
  | _ + 1, 0, a, h0, _, h1 => by omega
  | n + 1, m + 1, a, h0, h1, h2 => by
    unfold allT
    by_cases hk : (nextF l a).kind = 0
    · rw [if_pos hk, if_pos hk]
    · rw [if_neg hk, if_neg hk]
      obtain ⟨t1, t2⟩ := nextF_to h0 hk
      rw [allT_fuel n m _ t2 (by omega) (by omega)]
set_option maxHeartbeats 8000000 in
theorem all_L {l : List Int} (h : CL l) : callL Try.prog ext9 23 [LI l] [] = some (.list ((tokens l).map Tk.d), [.own 56], []) := by
  have hl := h.len
  have lN := LIlen l
  refine callK (m := 20) (res := [2]) (rs := [.tmp 2]) rfl Try.func23 rfl rfl rfl rfl rfl ?_
  repeat' (first
    | simp only [*, go_seq, go_block, go_loop, go_region, go_ops_nil, go_ops, okG_some, guardG, opG, inB, sval, stake, eats, eaters, get, cval, cval1, croom, St.taken, put_slot, put_room, dem_none, entry_slot, ↓reduceIte, Nat.reduceLT, decide_true, List.filterMap_cons, List.filterMap_nil, Option.map_some, List.contains_cons, List.contains_nil, List.map_nil, Bool.or_false, Nat.reduceBEq, Bool.false_eq_true, row9, frz9, frzOf_def, frz_nil, List.length_nil, bs24e]
    | (refine drW_intro (by kernel_rfl) ?_)
    | (refine gw_intro (fun h => ?_) (fun h => ?_) <;> (try simp only [beq_true, beq_false, Bool.not_eq_eq_eq_not, Bool.not_true, Bool.not_false, Bool.not_not, decide_eq_true_eq, decide_eq_false_iff_not, ge_iff_le, gt_iff_lt] at h)))
  refine loopH (fun st => ∃ (i : Nat) (done : List Tk), i ≤ l.length ∧ st.slot 4 = .int .i64 i ∧ st.slot 0 = LI l ∧ st.slot 3 = .list (done.map Tk.d) ∧ (st.room 3 = [.full] ∨ st.room 3 = [.own 56]) ∧
    Hd (done.length ≤ i) ∧ Hd (done ++ allT l (l.length + 1 - i) i = tokens l)) (fun st => l.length - slotI st 4) ?_ ?_
  · refine ⟨0, [], Nat.zero_le _, ?_, ?_, ?_, .inl ?_, Hd.mk (Nat.le_refl _), Hd.mk rfl⟩
    all_goals simp only [*, put_slot, put_room, dem_slot, entry_slot, ↓reduceIte, Nat.reduceEqDiff, reduceCtorEq, List.getD_cons_zero, List.map_nil]
    all_goals rfl
  · rintro st K ⟨i, done, hi, h4, h0, h3, hrm, hdl, hinv⟩ hn hx hr
    have hN := next_L h i hi
    have hstep : allT l (l.length + 1 - i) i = nextF l i :: if (nextF l i).kind = 0 then [] else allT l (l.length - i) (nextF l i).to := by
      rw [show l.length + 1 - i = (l.length - i) + 1 by omega]
      rfl
    have hto := fun hk => nextF_to hi hk
    have hdl' : done.length ≤ i := hdl
    have hinv' : done ++ allT l (l.length + 1 - i) i = tokens l := hinv
    rw [hstep] at hinv'
    have hfit : (done.map Tk.d).length ≤ 1073741823 := by rw [List.length_map]; omega
    have hsz := szTk done
    have hts : ∀ t : Tk, done.map Tk.d ++ [t.d] = (done ++ [t]).map Tk.d := by simp
    generalize nextF l i = t at *
    have hT := hts t
    have e1 : t.d = .agg [.int .i64 t.kind, .int .i64 t.fr, .int .i64 t.to, .str t.text, .str t.num, .bool t.whole] := rfl
    rw [e1] at hN hT
    by_cases hk : t.kind = 0
    · rw [if_pos hk] at hinv'
      have bk : (t.kind == 0) = true := by simp [hk]
      rw [hinv'] at hT
      clear hinv hinv' hstep hdl hdl' hts hto h hk
      rcases hrm with hrm | hrm
      all_goals
        repeat' (first
    | simp only [*, go_seq, go_cond, go_block, go_retc, go_region, go_ops_nil, go_ops, okG_some, okB_some, cwD_bool, gw_true, guardG, opG, isPtr, inB, sval, stake, eats, eaters, get, cval, cval1, St.taken, put_slot, put_room, put_box, put_ctr, put_none, dem_none, dem_slot, dem_box, setBox_slot, setBox_room, setBox_box, ↓reduceIte, Nat.reduceEqDiff, Nat.reduceLT, Nat.reduceLeDiff, reduceCtorEq, decide_true, List.filterMap_cons, List.filterMap_nil, Option.map_some, List.getElem?_cons_zero, List.contains_cons, List.contains_nil, List.map_cons, List.map_nil, beq_self_eq_true, Bool.or_false, Bool.and_true, Nat.reduceBEq, Bool.false_eq_true, dbin, dIntBin, okR, callG, row9, frz9, frzOf_def, frz_nil, pureB, leaf, leafN, List.all_cons, List.all_nil, List.nil_append, List.append_nil, List.length_nil, List.length_cons, List.take_zero, List.drop_zero, List.drop_succ_cons, dcells, Nat.zero_add, Nat.reduceAdd, stepBox, Bool.and_false, and_true, and_self, Nat.add_zero, or_true, or_false, szOk_cons, List.cons.injEq, List.getElem?_toArray, dp3, ty56, dp56, fp56_0, zr56, ap24, bs24]
    | (refine drW_intro (by kernel_rfl) ?_)
    | (refine gw_intro (fun h => ?_) (fun h => ?_) <;> (try simp only [beq_true, beq_false, Bool.not_eq_eq_eq_not, Bool.not_true, Bool.not_false, Bool.not_not, decide_eq_true_eq, decide_eq_false_iff_not, ge_iff_le, gt_iff_lt] at h)))
        refine hr _ ?_
        repeat' (first
    | simp only [*, put_slot, put_room, put_box, dem_box, setBox_box, endQ, endR, endV, rvars, rvar, room1, ↓reduceIte, List.map_nil, pureB, leaf, leafN, List.take_nil, List.range_zero, List.take_succ_cons, and_self]
    | (refine drW_intro (by kernel_rfl) ?_)
    | (refine gw_intro (fun h => ?_) (fun h => ?_) <;> (try simp only [beq_true, beq_false, Bool.not_eq_eq_eq_not, Bool.not_true, Bool.not_false, Bool.not_not, decide_eq_true_eq, decide_eq_false_iff_not, ge_iff_le, gt_iff_lt] at h)))
    · rw [if_neg hk] at hinv'
      have bk : (t.kind == 0) = false := by simp [hk]
      obtain ⟨t1, t2⟩ := hto hk
      have T := Hd.mk (show (done ++ [t]) ++ allT l (l.length + 1 - t.to) t.to = tokens l by
        rw [← hinv', List.append_assoc]
        show done ++ (t :: allT l _ _) = done ++ (t :: allT l _ _)
        rw [allT_fuel (l.length + 1 - t.to) (l.length - i) _ t2 (by omega) (by omega)])
      have D := Hd.mk (show (done ++ [t]).length ≤ t.to by simp; omega)
      clear hinv hinv' hstep hdl hdl' hts hto h hk
      rcases hrm with hrm | hrm
      all_goals
        repeat' (first
    | simp only [*, go_nil, go_seq, go_cond, go_block, go_blk, go_skip, go_region, go_ops_nil, go_ops, okG_some, okB_some, cwD_bool, gw_false, guardG, opG, isPtr, inB, sval, stake, eats, eaters, get, cval, cval1, St.taken, put_slot, put_room, put_box, put_ctr, put_none, dem_none, dem_slot, dem_box, setBox_slot, setBox_room, setBox_box, ↓reduceIte, Nat.reduceEqDiff, Nat.reduceLT, Nat.reduceLeDiff, reduceCtorEq, decide_true, List.filterMap_cons, List.filterMap_nil, Option.map_some, List.getElem?_cons_zero, List.getElem?_cons_succ, List.contains_cons, List.contains_nil, List.map_cons, List.map_nil, beq_self_eq_true, Bool.or_false, Bool.and_true, Nat.reduceBEq, Bool.false_eq_true, dbin, dIntBin, okR, callG, row9, frz9, frzOf_def, frz_nil, pureB, leaf, leafN, List.all_cons, List.all_nil, List.nil_append, List.append_nil, List.length_nil, List.length_cons, List.take_zero, List.drop_zero, List.drop_succ_cons, dcells, Nat.zero_add, Nat.reduceAdd, stepBox, Bool.and_false, and_true, and_self, Nat.add_zero, or_true, or_false, szOk_cons, List.cons.injEq, List.getElem?_toArray, dp3, ty56, dp56, fp56_0, fp56_2, zr56, ap24, bs24]
    | (refine drW_intro (by kernel_rfl) ?_)
    | (refine gw_intro (fun h => ?_) (fun h => ?_) <;> (try simp only [beq_true, beq_false, Bool.not_eq_eq_eq_not, Bool.not_true, Bool.not_false, Bool.not_not, decide_eq_true_eq, decide_eq_false_iff_not, ge_iff_le, gt_iff_lt] at h)))
        refine hn _ ⟨t.to, done ++ [t], t2, ?_, ?_, ?_, .inr ?_, D, T⟩ ?_
        · simp only [*, put_slot, ↓reduceIte]
        · simp only [*, put_slot, dem_slot, setBox_slot, ↓reduceIte, reduceCtorEq]
        · simp only [*, put_slot, dem_slot, ↓reduceIte, Nat.reduceEqDiff]
        · simp only [*, put_room, dem_room, ↓reduceIte, Nat.reduceEqDiff]
        · simp only [slotI, *, put_slot, ↓reduceIte, Int.toNat_natCast]
          omega
abbrev Tks (ts : List Tk) : D := .list (ts.map Tk.d)
theorem charsN_len : ∀ (n : Nat) (z : List Int), (charsN n z).length ≤ z.length
  | 0, z => by simp [charsN]
  | n + 1, [] => by simp [charsN]
  | n + 1, z :: zs => by
    have h1 := firstOf_size' (zs := z :: zs) (by simp)
    have h2 := charsN_len n ((z :: zs).drop (firstOf (z :: zs)).2)
    rw [List.length_drop] at h2
    simp only [charsN, List.length_cons] at h1 h2 ⊢
    omega
theorem chars_len (zs : List Int) : (chars zs).length ≤ zs.length := by
  have h := charsN_len zs.length zs
  unfold chars dropMark rawChars
  split
  · rw [List.length_tail]; omega
  · exact h
/-- The tokens of bytes. -/
def readT (zs : List Int) : List Tk := tokens (prep (chars zs))
theorem prep_CL (zs : List Int) (hl : zs.length ≤ 100000) : CL (prep (chars zs)) := ⟨fun c hc => by
    have h := (prep_good _ c hc).1
    unfold rightC at h
    have h := of_decide_eq_true h
    omega, by
    have h1 := prep_length (chars zs)
    have h2 := chars_len zs
    omega⟩
theorem read_L (zs : List Int) (hz : BytesOK zs) (hl : zs.length ≤ 100000) : callL Try.prog ext9 9 [.list (zs.map (D.int .u8))] [] = some (Tks (readT zs), [.own 56], []) := by
  obtain ⟨r1, h1⟩ := rchars_L zs hz (by omega)
  have hc := chars_len zs
  obtain ⟨r2, h2⟩ := prep_L (chars zs) (by omega)
  have h3 := all_L (prep_CL zs hl)
  refine callK (m := 7) (res := [2]) (rs := [.tmp 2]) rfl Try.func9 rfl rfl rfl rfl rfl ?_
  unfold Tks readT
  clear hz hl hc
  repeat' (first
    | simp only [*, go_seq, go_retc, go_region, go_ops_nil, go_ops, okG_some, guardG, opG, isPtr, inB, sval, stake, eats, eaters, get, cval, cval1, croom, St.taken, put_slot, put_room, put_box, dem_none, dem_box, entry_slot, entry_box, endQ, endR, endV, rvars, rvar, room1, ↓reduceIte, Nat.reduceLT, reduceCtorEq, decide_true, List.filterMap_cons, List.filterMap_nil, List.getD_cons_zero, List.contains_cons, List.contains_nil, List.map_cons, List.map_nil, beq_self_eq_true, Bool.or_false, Bool.and_true, Nat.reduceBEq, Bool.false_eq_true, okR, callG, row9, frz9, frzOf_def, frz_nil, pureB, leaf, leafN, List.all_cons, List.all_nil, List.nil_append, List.append_nil, List.take_nil, List.range_zero, List.length_nil, List.getElem?_nil, List.take_succ_cons, Bool.and_false, and_self]
    | (refine drW_intro (by kernel_rfl) ?_)
    | (refine gw_intro (fun h => ?_) (fun h => ?_) <;> (try simp only [beq_true, beq_false, Bool.not_eq_eq_eq_not, Bool.not_true, Bool.not_false, Bool.not_not, decide_eq_true_eq, decide_eq_false_iff_not, ge_iff_le, gt_iff_lt] at h)))
end Go.Av
/- Chapter 19, plain: tokens as blocks see them; parts of them. -/
set_option linter.unusedVariables false
namespace Go.Av
open Go.Proofs
def tk0 : Tk := ⟨0, 0, 0, [], [], false⟩
def kd (ts : List Tk) (i : Nat) : Int := (ts.getD i tk0).kind
def tx (ts : List Tk) (i : Nat) : List UInt8 := (ts.getD i tk0).text
theorem tk_at (ts : List Tk) (i : Nat) (h : i < ts.length) : (ts.map Tk.d).getD i .bad = .agg [.int .i64 (kd ts i), .int .i64 ((ts.getD i tk0).fr : Nat), .int .i64 ((ts.getD i tk0).to : Nat), .str (tx ts i), .str (ts.getD i tk0).num, .bool (ts.getD i tk0).whole] := by
  have e : (ts.map Tk.d).getD i .bad = (ts.getD i tk0).d := by
    simp [List.getD, h]
  rw [e]
  rfl
theorem tkKind_at (ts : List Tk) (i : Nat) : tkKind ((ts.map Tk.d).getD i .bad) = kd ts i := by
  by_cases h : i < ts.length
  · rw [tk_at ts i h]; rfl
  · have e1 : (ts.map Tk.d).getD i .bad = .bad := by simp [List.getD, h]
    have e2 : kd ts i = 0 := by
      have : ts.getD i tk0 = tk0 := by simp [List.getD, h]
      unfold kd; rw [this]; rfl
    rw [e1, e2]; rfl
/-- The first token that is an end, or a place. -/
def endF (ks : Nat → Int) (e a : Nat) : Nat := runF (fun i => decide (i < e) && ks i != 0) e a
def cutF (ts : List Tk) (fr to : Int) : Nat × Nat := (fr.toNat, endF (kd ts) (min to ts.length).toNat fr.toNat)
theorem endF_ge (ks : Nat → Int) (e a : Nat) : a ≤ endF ks e a ∧ (a ≤ e → endF ks e a ≤ e) := runF_pos
theorem endF_step {ks : Nat → Int} {e a : Nat} (h : a < e) (hk : ks a ≠ 0) : endF ks e a = endF ks e (a + 1) :=
  runF_step (fun i hi => by simp [Nat.not_lt.2 hi]) (by simp [h, hk])
theorem endF_stop {ks : Nat → Int} {e a : Nat} (h : e ≤ a ∨ ks a = 0) : endF ks e a = a :=
  runF_stop (by rcases h with h | h <;> simp [h, Nat.not_lt.2])
theorem cutF_ge (ts : List Tk) (fr to : Int) : (cutF ts fr to).1 ≤ (cutF ts fr to).2 := (endF_ge _ _ _).1
theorem cutF_le (ts : List Tk) (fr to : Int) : (cutF ts fr to).2 ≤ ts.length ∨ (cutF ts fr to).2 ≤ (cutF ts fr to).1 := by
  by_cases h : fr.toNat ≤ (min to ts.length).toNat
  · have := (endF_ge (kd ts) (min to ts.length).toNat fr.toNat).2 h
    refine .inl (Nat.le_trans this ?_)
    omega
  · refine .inr ?_
    have : endF (kd ts) (min to ts.length).toNat fr.toNat = fr.toNat := endF_stop (.inl (by omega))
    show endF _ _ _ ≤ fr.toNat
    omega
end Go.Av
/- Chapter 19, plain: how long a token's text is. -/
set_option linter.unusedVariables false
namespace Go.Av
open Go.Proofs Go.Proofs.Ytaldmffahmomoaa
theorem scan_len {σ : Nat → List Int → Option (Nat × List Int)} {n : Nat} (hg : Goes σ n) (h : ∀ a x b y, σ a x = some (b, y) → y.length + a ≤ x.length + b) : ∀ (k a : Nat) (x : List Int), (scan σ k a x).2.length + a ≤ x.length + (scan σ k a x).1
  | 0, a, x => by simp [scan]
  | k + 1, a, x => by
    unfold scan
    cases hs : σ a x with
    | none => simp
    | some p =>
      obtain ⟨b, y⟩ := p
      have h1 := h _ _ _ _ hs
      have h2 := scan_len hg h k b y
      have h3 := hg.inc _ _ _ _ hs
      simp only
      omega
theorem quot_len (l : List Int) (a : Nat) (ha : a < l.length) : (quotR l a).2.length ≤ l.length := by
  have h := scan_len (quot_goes l (l.getD a 0)) (fun a x b y h => by
    unfold quotS at h
    split at h
    · rename_i h1
      have hv := val_pos h1.1
      split at h
      · injection h with h; injection h with h h'; subst h'; simp; omega
      · split at h
        · injection h with h; injection h with h h'; subst h'; omega
        · split at h
          · injection h with h; injection h with h h'; subst h'; omega
          · injection h with h; injection h with h h'; subst h'; simp; omega
    · cases h) (l.length - (a + 1)) (a + 1) []
  have h2 := (quot_goes l (l.getD a 0)).pos (l.length - (a + 1)) (a + 1) []
  have e : quotR l a = scan (quotS l (l.getD a 0)) (l.length - (a + 1)) (a + 1) [] := rfl
  rw [← e] at h h2
  simp at h
  omega
theorem url_len (l : List Int) (a : Nat) (ha : a ≤ l.length) : (urlR l a).2.length ≤ l.length := by
  have h := scan_len (url_goes l) (fun a x b y h => by
    unfold urlS at h
    have hp := runF_pos (p := atB spC l) (n := l.length) (a := a)
    split at h
    · rename_i h1
      have hv := val_pos h1.1
      unfold spRun at *
      split at h
      · injection h with h; injection h with h h'; subst h'; simp; omega
      · injection h with h; injection h with h h'; subst h'; simp; omega
    · cases h) (l.length - a) a []
  have h2 := (url_goes l).pos (l.length - a) a []
  have e : urlR l a = scan (urlS l) (l.length - a) a [] := rfl
  rw [← e] at h h2
  simp at h
  omega
theorem text_le {x : List Int} {n : Nat} (h : x.length ≤ n) : (textS x).length ≤ 4 * n := Nat.le_trans (textS_length x) (Nat.mul_le_mul_left 4 h)
theorem names_len {l : List Int} {a : Nat} (h : a ≤ l.length) : (namesF l a).1.length ≤ l.length := by
  have := namesF_pos h
  omega
theorem next_text {l : List Int} {a : Nat} (ha : a ≤ l.length) : (nextF l a).text.length ≤ 4 * l.length + 4 := by
  have hb := behF_pos (l := l) (a := a)
  unfold nextF
  by_cases hle : l.length ≤ behF l a
  · rw [if_pos hle]; simp
  · rw [if_neg hle]
    have hi : behF l a < l.length := by omega
    generalize behF l a = i at *
    have hN0 := text_le (names_len (l := l) (a := i) (by omega))
    have hN1 := text_le (names_len (l := l) (a := i + 1) (by omega))
    unfold nextC nextB
    repeat' split
    · simp
    · unfold quotedF
      have := text_le (quot_len l i hi)
      repeat' split
      all_goals simp
      all_goals omega
    · unfold numericF
      have hd := digF_pos (l := l) (a := i) (by omega)
      have := text_le (names_len (l := l) (a := (digF l i).1) hd.2)
      dsimp only
      repeat' split
      all_goals simp
      all_goals omega
    · simp
    · unfold calledF
      have hp := namesF_pos (l := l) (a := i) (by omega)
      split
      · split
        · unfold urlF urlE
          have hlt : isC l (namesF l i).2 40 = true := by assumption
          have hlt2 : (namesF l i).2 < l.length := by
            unfold isC at hlt
            simp at hlt
            exact hlt.1
          have hs := runF_pos (p := atB spC l) (n := l.length) (a := (namesF l i).2 + 1)
          have := text_le (url_len l (spRun l ((namesF l i).2 + 1)) (by unfold spRun; omega))
          repeat' split
          all_goals simp
          all_goals omega
        · simp; omega
      · simp; omega
    · simp
    · simp; omega
    · simp; omega
    · unfold signTk
      have := textS_length [l.getD i 0]
      split
      · simp
      · simp at this ⊢; omega
/-- Tokens as a style sheet's bytes give them. -/
structure TL (ts : List Tk) : Prop where
  len : ts.length ≤ 1000000
  txt : ∀ i, (tx ts i).length ≤ 1000000
theorem allT_text {l : List Int} : ∀ (n a : Nat), a ≤ l.length → ∀ t ∈ allT l n a, t.text.length ≤ 4 * l.length + 4
  | 0, _, _ => by simp [allT]
  | n + 1, a, ha => by
    intro t ht
    unfold allT at ht
    rcases List.mem_cons.1 ht with h | h
    · rw [h]; exact next_text ha
    · split at h
      · cases h
      · rename_i hk
        exact allT_text n _ (nextF_to ha hk).2 t h
theorem tokens_TL {l : List Int} (h : CL l) : TL (tokens l) := by
  have hl := h.len
  have h1 := allT_length (l := l) (l.length + 1) 0
  refine ⟨by unfold tokens; omega, fun i => ?_⟩
  unfold tx
  by_cases hi : i < (tokens l).length
  · have := allT_text (l := l) (l.length + 1) 0 (Nat.zero_le _) ((tokens l).getD i tk0) (by
      rw [List.getD_eq_getElem?_getD, List.getElem?_eq_getElem hi]
      exact List.getElem_mem hi)
    omega
  · have e : (tokens l).getD i tk0 = tk0 := by simp [List.getD, hi]
    rw [e]
    simp [tk0]
end Go.Av
