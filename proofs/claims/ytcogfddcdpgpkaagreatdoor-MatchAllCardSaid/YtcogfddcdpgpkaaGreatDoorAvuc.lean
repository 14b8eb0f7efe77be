/- The evaluator, in one text: over any program; no conditions but those that each law names. -/
import Derived.Test.YtcogfddcdpgpkaaGreatDoorAvub
import Derived.Test.YtcogfddcdpgpkaaGreatDoorAvua
import Derived.Test.YtcogfddcdpgpkaaGreatDoorAvb
set_option linter.unusedSimpArgs false
set_option linter.unusedVariables false
set_option linter.unusedSectionVars false
set_option maxRecDepth 10000
namespace Go.Av
open Go.Proofs
theorem en34 (t : TypeId) (d : D) : dbin Tryz.prog true .neq 34 (.iface t d) (.con .nilIface) = some (.bool true) := by kernel_rfl
theorem en34n : dbin Tryz.prog true .neq 34 (.con .nilIface) (.con .nilIface) = some (.bool false) := by kernel_rfl
theorem ee34n : dbin Tryz.prog true .eql 34 (.con .nilIface) (.con .nilIface) = some (.bool true) := by kernel_rfl
theorem shA34 : shapeOk Tryz.prog 34 (.con .nilIface) (.con .nilIface) = true := by kernel_rfl
theorem shB34 (t : TypeId) (d : D) : shapeOk Tryz.prog 34 (.iface t d) (.con .nilIface) = true := by kernel_rfl
theorem ap22 (es fs : List D) (r : List Room) : dappend Tryz.prog #[22, 22] (.list es) (.list fs) r = if lenOk (es.length + fs.length) 112 = true ∧ szOk 7 fs = true ∧ szOk 7 es = true ∧ (r = [.full] ∨ r = [.own 71] ∨ r = [.fresh]) then some (.list (es ++ fs), 71) else none := by
 have : (Tryz.prog.info? 71).map (fun i => (infoOk i, i.size, i.bytes)) = some (true, 7, 112) := by kernel_rfl
 obtain ⟨i, hi, h⟩ := Option.map_eq_some_iff.1 this
 injection h with h1 h2
 injection h2 with h2 h3
 simp only [dappend, ty22.1, hi, h1, h2, h3, if_true, true_and]
theorem ap39 (es fs : List D) (r : List Room) : dappend Tryz.prog #[81, 81] (.list es) (.list fs) r = if lenOk (es.length + fs.length) 8 = true ∧ szOk 1 fs = true ∧ szOk 1 es = true ∧ (r = [.full] ∨ r = [.own 3] ∨ r = [.fresh]) then some (.list (es ++ fs), 3) else none := by
 have : (Tryz.prog.info? 3).map (fun i => (infoOk i, i.size, i.bytes)) = some (true, 1, 8) := by kernel_rfl
 obtain ⟨i, hi, h⟩ := Option.map_eq_some_iff.1 this
 injection h with h1 h2
 injection h2 with h2 h3
 simp only [dappend, ty39.1, hi, h1, h2, h3, if_true, true_and]
theorem bs22e : dbuildSlice Tryz.prog 22 0 [] = some (.list []) := by kernel_rfl
theorem bs39e : dbuildSlice Tryz.prog 81 0 [] = some (.list []) := by kernel_rfl
theorem bs39 (z : Int) : dbuildSlice Tryz.prog 81 1 [(0, .int .i64 z)] = some (.list [.int .i64 z]) := by kernel_rfl
theorem bs22 (p k : Int) (sp nm : List UInt8) (la ls : List D) (tx : List UInt8) : dbuildSlice Tryz.prog 22 1 [(0, .agg [.int .i64 p, .int .i64 k, .str sp, .str nm, .list la, .list ls, .str tx])] = some (.list [.agg [.int .i64 p, .int .i64 k, .str sp, .str nm, .list la, .list ls, .str tx]]) := by kernel_rfl
theorem bd26 : dbuild Tryz.prog 71 [] = some (.agg [.int .i64 0, .int .i64 0, .str [], .str [], .list [], .list [], .str []]) := by kernel_rfl
theorem bt39 : bytesT Tryz.prog 81 = false := by kernel_rfl
theorem bt22 : bytesT Tryz.prog 22 = false := by kernel_rfl
theorem bt23 : bytesT Tryz.prog 69 = false := by kernel_rfl
theorem bt24 : bytesT Tryz.prog 24 = false := by kernel_rfl
end Go.Av
namespace Go.Av
open Go.Proofs
theorem ty57 : aggOf Tryz.prog 80 = some false := by kernel_rfl
theorem dp57 (cs : List D) (off : Nat) : dpart Tryz.prog 80 cs off = cs[off]? := by simp only [dpart, ty57]
theorem fa59_0 (d : D) (off : Nat) : dfieldAddr Tryz.prog 83 (.fix d off) 0 = some (.fix d (off + 0)) := by kernel_rfl
theorem fa59_1 (d : D) (off : Nat) : dfieldAddr Tryz.prog 83 (.fix d off) 1 = some (.fix d (off + 1)) := by kernel_rfl
theorem fa59_2 (d : D) (off : Nat) : dfieldAddr Tryz.prog 83 (.fix d off) 2 = some (.fix d (off + 2)) := by kernel_rfl
theorem fa59_3 (d : D) (off : Nat) : dfieldAddr Tryz.prog 83 (.fix d off) 3 = some (.fix d (off + 3)) := by kernel_rfl
theorem lk57 (ks : List Int) (ds : List D) (n : Int) : dlookup Tryz.prog 80 (.imap ks ds) (.int .i64 n) = some (kfind n ks ds) := by kernel_rfl
theorem ee32 (d : D) (off : Nat) : dbin Tryz.prog true .eql 32 (.fix d off) (.con (.pointer none)) = some (.bool false) := by kernel_rfl
theorem en32 (d : D) (off : Nat) : dbin Tryz.prog true .neq 32 (.fix d off) (.con (.pointer none)) = some (.bool true) := by kernel_rfl
theorem shC32 (d : D) (off : Nat) : shapeOk Tryz.prog 32 (.fix d off) (.con (.pointer none)) = true := by kernel_rfl
theorem shD32 : shapeOk Tryz.prog 32 (.con (.pointer none)) (.con (.pointer none)) = true := by kernel_rfl
end Go.Av
namespace Go.Av.Ys
open Go.Proofs Go.Av
theorem ty3 : aggOf Tryz.prog 3 = some false ∧ sizeT Tryz.prog 3 = some 1 ∧ Tryz.prog.underlying 3 = some (.int .i64) := ⟨by kernel_rfl, by kernel_rfl, by kernel_rfl⟩
theorem dp3 (cs : List D) (off : Nat) : dpart Tryz.prog 3 cs off = cs[off]? := by simp only [dpart, ty3.1]
theorem ty4 : aggOf Tryz.prog 4 = some false ∧ sizeT Tryz.prog 4 = some 1 ∧ Tryz.prog.underlying 4 = some (.bool) := ⟨by kernel_rfl, by kernel_rfl, by kernel_rfl⟩
theorem dp4 (cs : List D) (off : Nat) : dpart Tryz.prog 4 cs off = cs[off]? := by simp only [dpart, ty4.1]
theorem ty9 : aggOf Tryz.prog 9 = some false ∧ sizeT Tryz.prog 9 = some 1 ∧ Tryz.prog.underlying 9 = some (.string) := ⟨by kernel_rfl, by kernel_rfl, by kernel_rfl⟩
theorem dp9 (cs : List D) (off : Nat) : dpart Tryz.prog 9 cs off = cs[off]? := by simp only [dpart, ty9.1]
theorem len9 (s : List UInt8) : dlen Tryz.prog #[9] (.str s) = some (.int .i64 s.length) := by kernel_rfl
theorem ty38 : aggOf Tryz.prog 38 = some true ∧ sizeT Tryz.prog 38 = some 3 := ⟨by kernel_rfl, by kernel_rfl⟩
theorem dp38 (x0 x1 x2 : D) : dpart Tryz.prog 38 [x0, x1, x2] 0 = some (.agg [x0, x1, x2]) := by simp only [dpart, ty38.1, ty38.2]; rfl
theorem fa38_0 (d : D) (off : Nat) : dfieldAddr Tryz.prog 38 (.fix d off) 0 = some (.fix d (off + 0)) := by kernel_rfl
theorem fp38_0 (k g off : Nat) : dfieldAddr Tryz.prog 38 (.ptr k g off) 0 = some (.ptr k g (off + 0)) := by kernel_rfl
theorem fa38_1 (d : D) (off : Nat) : dfieldAddr Tryz.prog 38 (.fix d off) 1 = some (.fix d (off + 1)) := by kernel_rfl
theorem fp38_1 (k g off : Nat) : dfieldAddr Tryz.prog 38 (.ptr k g off) 1 = some (.ptr k g (off + 1)) := by kernel_rfl
theorem fa38_2 (d : D) (off : Nat) : dfieldAddr Tryz.prog 38 (.fix d off) 2 = some (.fix d (off + 2)) := by kernel_rfl
theorem fp38_2 (k g off : Nat) : dfieldAddr Tryz.prog 38 (.ptr k g off) 2 = some (.ptr k g (off + 2)) := by kernel_rfl
theorem ty40 : aggOf Tryz.prog 40 = some true ∧ sizeT Tryz.prog 40 = some 2 := ⟨by kernel_rfl, by kernel_rfl⟩
theorem dp40 (x0 x1 : D) : dpart Tryz.prog 40 [x0, x1] 0 = some (.agg [x0, x1]) := by simp only [dpart, ty40.1, ty40.2]; rfl
theorem fa40_0 (d : D) (off : Nat) : dfieldAddr Tryz.prog 40 (.fix d off) 0 = some (.fix d (off + 0)) := by kernel_rfl
theorem fp40_0 (k g off : Nat) : dfieldAddr Tryz.prog 40 (.ptr k g off) 0 = some (.ptr k g (off + 0)) := by kernel_rfl
theorem fa40_1 (d : D) (off : Nat) : dfieldAddr Tryz.prog 40 (.fix d off) 1 = some (.fix d (off + 1)) := by kernel_rfl
theorem fp40_1 (k g off : Nat) : dfieldAddr Tryz.prog 40 (.ptr k g off) 1 = some (.ptr k g (off + 1)) := by kernel_rfl
theorem ty42 : aggOf Tryz.prog 42 = some true ∧ sizeT Tryz.prog 42 = some 11 := ⟨by kernel_rfl, by kernel_rfl⟩
theorem dp42 (x0 x1 x2 x3 x4 x5 x6 x7 x8 x9 x10 : D) : dpart Tryz.prog 42 [x0, x1, x2, x3, x4, x5, x6, x7, x8, x9, x10] 0 = some (.agg [x0, x1, x2, x3, x4, x5, x6, x7, x8, x9, x10]) := by simp only [dpart, ty42.1, ty42.2]; rfl
theorem fa42_0 (d : D) (off : Nat) : dfieldAddr Tryz.prog 42 (.fix d off) 0 = some (.fix d (off + 0)) := by kernel_rfl
theorem fp42_0 (k g off : Nat) : dfieldAddr Tryz.prog 42 (.ptr k g off) 0 = some (.ptr k g (off + 0)) := by kernel_rfl
theorem fa42_1 (d : D) (off : Nat) : dfieldAddr Tryz.prog 42 (.fix d off) 1 = some (.fix d (off + 1)) := by kernel_rfl
theorem fp42_1 (k g off : Nat) : dfieldAddr Tryz.prog 42 (.ptr k g off) 1 = some (.ptr k g (off + 1)) := by kernel_rfl
theorem fa42_2 (d : D) (off : Nat) : dfieldAddr Tryz.prog 42 (.fix d off) 2 = some (.fix d (off + 2)) := by kernel_rfl
theorem fp42_2 (k g off : Nat) : dfieldAddr Tryz.prog 42 (.ptr k g off) 2 = some (.ptr k g (off + 2)) := by kernel_rfl
theorem fa42_3 (d : D) (off : Nat) : dfieldAddr Tryz.prog 42 (.fix d off) 3 = some (.fix d (off + 3)) := by kernel_rfl
theorem fp42_3 (k g off : Nat) : dfieldAddr Tryz.prog 42 (.ptr k g off) 3 = some (.ptr k g (off + 3)) := by kernel_rfl
theorem fa42_4 (d : D) (off : Nat) : dfieldAddr Tryz.prog 42 (.fix d off) 4 = some (.fix d (off + 4)) := by kernel_rfl
theorem fp42_4 (k g off : Nat) : dfieldAddr Tryz.prog 42 (.ptr k g off) 4 = some (.ptr k g (off + 4)) := by kernel_rfl
theorem fa42_5 (d : D) (off : Nat) : dfieldAddr Tryz.prog 42 (.fix d off) 5 = some (.fix d (off + 7)) := by kernel_rfl
theorem fp42_5 (k g off : Nat) : dfieldAddr Tryz.prog 42 (.ptr k g off) 5 = some (.ptr k g (off + 7)) := by kernel_rfl
theorem fa42_6 (d : D) (off : Nat) : dfieldAddr Tryz.prog 42 (.fix d off) 6 = some (.fix d (off + 8)) := by kernel_rfl
theorem fp42_6 (k g off : Nat) : dfieldAddr Tryz.prog 42 (.ptr k g off) 6 = some (.ptr k g (off + 8)) := by kernel_rfl
theorem fa42_7 (d : D) (off : Nat) : dfieldAddr Tryz.prog 42 (.fix d off) 7 = some (.fix d (off + 10)) := by kernel_rfl
theorem fp42_7 (k g off : Nat) : dfieldAddr Tryz.prog 42 (.ptr k g off) 7 = some (.ptr k g (off + 10)) := by kernel_rfl
theorem ty45 : aggOf Tryz.prog 45 = some true ∧ sizeT Tryz.prog 45 = some 2 := ⟨by kernel_rfl, by kernel_rfl⟩
theorem dp45 (x0 x1 : D) : dpart Tryz.prog 45 [x0, x1] 0 = some (.agg [x0, x1]) := by simp only [dpart, ty45.1, ty45.2]; rfl
theorem fa45_0 (d : D) (off : Nat) : dfieldAddr Tryz.prog 45 (.fix d off) 0 = some (.fix d (off + 0)) := by kernel_rfl
theorem fp45_0 (k g off : Nat) : dfieldAddr Tryz.prog 45 (.ptr k g off) 0 = some (.ptr k g (off + 0)) := by kernel_rfl
theorem fa45_1 (d : D) (off : Nat) : dfieldAddr Tryz.prog 45 (.fix d off) 1 = some (.fix d (off + 1)) := by kernel_rfl
theorem fp45_1 (k g off : Nat) : dfieldAddr Tryz.prog 45 (.ptr k g off) 1 = some (.ptr k g (off + 1)) := by kernel_rfl
theorem ty48 : aggOf Tryz.prog 48 = some true ∧ sizeT Tryz.prog 48 = some 1 := ⟨by kernel_rfl, by kernel_rfl⟩
theorem dp48 (x0 : D) : dpart Tryz.prog 48 [x0] 0 = some (.agg [x0]) := by simp only [dpart, ty48.1, ty48.2]; rfl
theorem fa48_0 (d : D) (off : Nat) : dfieldAddr Tryz.prog 48 (.fix d off) 0 = some (.fix d (off + 0)) := by kernel_rfl
theorem fp48_0 (k g off : Nat) : dfieldAddr Tryz.prog 48 (.ptr k g off) 0 = some (.ptr k g (off + 0)) := by kernel_rfl
theorem ty26 : aggOf Tryz.prog 26 = some true ∧ sizeT Tryz.prog 26 = some 4 := ⟨by kernel_rfl, by kernel_rfl⟩
theorem dp26 (x0 x1 x2 x3 : D) : dpart Tryz.prog 26 [x0, x1, x2, x3] 0 = some (.agg [x0, x1, x2, x3]) := by simp only [dpart, ty26.1, ty26.2]; rfl
theorem fa26_0 (d : D) (off : Nat) : dfieldAddr Tryz.prog 26 (.fix d off) 0 = some (.fix d (off + 0)) := by kernel_rfl
theorem fp26_0 (k g off : Nat) : dfieldAddr Tryz.prog 26 (.ptr k g off) 0 = some (.ptr k g (off + 0)) := by kernel_rfl
theorem fa26_1 (d : D) (off : Nat) : dfieldAddr Tryz.prog 26 (.fix d off) 1 = some (.fix d (off + 1)) := by kernel_rfl
theorem fp26_1 (k g off : Nat) : dfieldAddr Tryz.prog 26 (.ptr k g off) 1 = some (.ptr k g (off + 1)) := by kernel_rfl
theorem fa26_2 (d : D) (off : Nat) : dfieldAddr Tryz.prog 26 (.fix d off) 2 = some (.fix d (off + 2)) := by kernel_rfl
theorem fp26_2 (k g off : Nat) : dfieldAddr Tryz.prog 26 (.ptr k g off) 2 = some (.ptr k g (off + 2)) := by kernel_rfl
theorem fa26_3 (d : D) (off : Nat) : dfieldAddr Tryz.prog 26 (.fix d off) 3 = some (.fix d (off + 3)) := by kernel_rfl
theorem fp26_3 (k g off : Nat) : dfieldAddr Tryz.prog 26 (.ptr k g off) 3 = some (.ptr k g (off + 3)) := by kernel_rfl
theorem ty92 : aggOf Tryz.prog 92 = some true ∧ sizeT Tryz.prog 92 = some 5 := ⟨by kernel_rfl, by kernel_rfl⟩
theorem dp92 (x0 x1 x2 x3 x4 : D) : dpart Tryz.prog 92 [x0, x1, x2, x3, x4] 0 = some (.agg [x0, x1, x2, x3, x4]) := by simp only [dpart, ty92.1, ty92.2]; rfl
theorem fa92_0 (d : D) (off : Nat) : dfieldAddr Tryz.prog 92 (.fix d off) 0 = some (.fix d (off + 0)) := by kernel_rfl
theorem fp92_0 (k g off : Nat) : dfieldAddr Tryz.prog 92 (.ptr k g off) 0 = some (.ptr k g (off + 0)) := by kernel_rfl
theorem fa92_1 (d : D) (off : Nat) : dfieldAddr Tryz.prog 92 (.fix d off) 1 = some (.fix d (off + 1)) := by kernel_rfl
theorem fp92_1 (k g off : Nat) : dfieldAddr Tryz.prog 92 (.ptr k g off) 1 = some (.ptr k g (off + 1)) := by kernel_rfl
theorem ty51 : aggOf Tryz.prog 51 = some true ∧ sizeT Tryz.prog 51 = some 2 := ⟨by kernel_rfl, by kernel_rfl⟩
theorem dp51 (x0 x1 : D) : dpart Tryz.prog 51 [x0, x1] 0 = some (.agg [x0, x1]) := by simp only [dpart, ty51.1, ty51.2]; rfl
theorem fa51_0 (d : D) (off : Nat) : dfieldAddr Tryz.prog 51 (.fix d off) 0 = some (.fix d (off + 0)) := by kernel_rfl
theorem fp51_0 (k g off : Nat) : dfieldAddr Tryz.prog 51 (.ptr k g off) 0 = some (.ptr k g (off + 0)) := by kernel_rfl
theorem fa51_1 (d : D) (off : Nat) : dfieldAddr Tryz.prog 51 (.fix d off) 1 = some (.fix d (off + 1)) := by kernel_rfl
theorem fp51_1 (k g off : Nat) : dfieldAddr Tryz.prog 51 (.ptr k g off) 1 = some (.ptr k g (off + 1)) := by kernel_rfl
theorem dp26_1_5 (x0 x1 x2 x3 x4 : D) : dpart Tryz.prog 26 [x0, x1, x2, x3, x4] 1 = some (.agg [x1, x2, x3, x4]) := by simp only [dpart, ty26.1, ty26.2]; rfl
theorem dp38_4_11 (x0 x1 x2 x3 x4 x5 x6 x7 x8 x9 x10 : D) : dpart Tryz.prog 38 [x0, x1, x2, x3, x4, x5, x6, x7, x8, x9, x10] 4 = some (.agg [x4, x5, x6]) := by simp only [dpart, ty38.1, ty38.2]; rfl
theorem dp40_8_11 (x0 x1 x2 x3 x4 x5 x6 x7 x8 x9 x10 : D) : dpart Tryz.prog 40 [x0, x1, x2, x3, x4, x5, x6, x7, x8, x9, x10] 8 = some (.agg [x8, x9]) := by simp only [dpart, ty40.1, ty40.2]; rfl
theorem ty24 : elemT Tryz.prog 24 = some 9 ∧ Tryz.prog.underlying 24 = some (.slice 9) ∧ aggOf Tryz.prog 24 = some false := ⟨by kernel_rfl, by kernel_rfl, by kernel_rfl⟩
theorem dp24 (cs : List D) (off : Nat) : dpart Tryz.prog 24 cs off = cs[off]? := by simp only [dpart, ty24.2.2]
theorem ia24 (es : List D) (ki : IntKind) (i : Int) : dindexAddr Tryz.prog 24 (.list es) (.int ki i) = if 0 ≤ i ∧ i < es.length then (if (dcells (es.getD i.toNat .bad)).length = 1 then some (.fix (es.getD i.toNat .bad) 0) else none) else none := by
 simp only [dindexAddr, ty24.1, ty9.2.1]
theorem len24 (l : List D) : dlen Tryz.prog #[24] (.list l) = some (.int .i64 l.length) := by kernel_rfl
theorem ty43 : elemT Tryz.prog 43 = some 42 ∧ Tryz.prog.underlying 43 = some (.slice 42) ∧ aggOf Tryz.prog 43 = some false := ⟨by kernel_rfl, by kernel_rfl, by kernel_rfl⟩
theorem dp43 (cs : List D) (off : Nat) : dpart Tryz.prog 43 cs off = cs[off]? := by simp only [dpart, ty43.2.2]
theorem ia43 (es : List D) (ki : IntKind) (i : Int) : dindexAddr Tryz.prog 43 (.list es) (.int ki i) = if 0 ≤ i ∧ i < es.length then (if (dcells (es.getD i.toNat .bad)).length = 11 then some (.fix (es.getD i.toNat .bad) 0) else none) else none := by
 simp only [dindexAddr, ty43.1, ty42.2]
theorem len43 (l : List D) : dlen Tryz.prog #[43] (.list l) = some (.int .i64 l.length) := by kernel_rfl
theorem ty46 : elemT Tryz.prog 46 = some 45 ∧ Tryz.prog.underlying 46 = some (.slice 45) ∧ aggOf Tryz.prog 46 = some false := ⟨by kernel_rfl, by kernel_rfl, by kernel_rfl⟩
theorem dp46 (cs : List D) (off : Nat) : dpart Tryz.prog 46 cs off = cs[off]? := by simp only [dpart, ty46.2.2]
theorem ia46 (es : List D) (ki : IntKind) (i : Int) : dindexAddr Tryz.prog 46 (.list es) (.int ki i) = if 0 ≤ i ∧ i < es.length then (if (dcells (es.getD i.toNat .bad)).length = 2 then some (.fix (es.getD i.toNat .bad) 0) else none) else none := by
 simp only [dindexAddr, ty46.1, ty45.2]
theorem len46 (l : List D) : dlen Tryz.prog #[46] (.list l) = some (.int .i64 l.length) := by kernel_rfl
theorem ty23 : elemT Tryz.prog 23 = some 48 ∧ Tryz.prog.underlying 23 = some (.slice 48) ∧ aggOf Tryz.prog 23 = some false := ⟨by kernel_rfl, by kernel_rfl, by kernel_rfl⟩
theorem dp23 (cs : List D) (off : Nat) : dpart Tryz.prog 23 cs off = cs[off]? := by simp only [dpart, ty23.2.2]
theorem ia23 (es : List D) (ki : IntKind) (i : Int) : dindexAddr Tryz.prog 23 (.list es) (.int ki i) = if 0 ≤ i ∧ i < es.length then (if (dcells (es.getD i.toNat .bad)).length = 1 then some (.fix (es.getD i.toNat .bad) 0) else none) else none := by
 simp only [dindexAddr, ty23.1, ty48.2]
theorem len23 (l : List D) : dlen Tryz.prog #[23] (.list l) = some (.int .i64 l.length) := by kernel_rfl
theorem ty81 : elemT Tryz.prog 81 = some 3 ∧ Tryz.prog.underlying 81 = some (.slice 3) ∧ aggOf Tryz.prog 81 = some false := ⟨by kernel_rfl, by kernel_rfl, by kernel_rfl⟩
theorem dp81 (cs : List D) (off : Nat) : dpart Tryz.prog 81 cs off = cs[off]? := by simp only [dpart, ty81.2.2]
theorem ia81 (es : List D) (ki : IntKind) (i : Int) : dindexAddr Tryz.prog 81 (.list es) (.int ki i) = if 0 ≤ i ∧ i < es.length then (if (dcells (es.getD i.toNat .bad)).length = 1 then some (.fix (es.getD i.toNat .bad) 0) else none) else none := by
 simp only [dindexAddr, ty81.1, ty3.2.1]
theorem len81 (l : List D) : dlen Tryz.prog #[81] (.list l) = some (.int .i64 l.length) := by kernel_rfl
theorem zr42 : zeroOf Tryz.prog 42 = some [.int .i64 0, .int .i64 0, .str [], .str [], .int .i64 0, .str [], .bool false, .int .i64 0, .int .i64 0, .int .i64 0, .list []] := by kernel_rfl
theorem zr38 : zeroOf Tryz.prog 38 = some [.int .i64 0, .str [], .bool false] := by kernel_rfl
theorem c0e : ((((0 : Nat)) : Int) == 0) = true := rfl
theorem ty32 : aggOf Tryz.prog 32 = some false := by kernel_rfl
theorem dp32 (cs : List D) (off : Nat) : dpart Tryz.prog 32 cs off = cs[off]? := by simp only [dpart, ty32]
theorem ty179 : aggOf Tryz.prog 179 = some false ∧ sizeT Tryz.prog 179 = some 1 ∧ Tryz.prog.underlying 179 = some (.int .u64) := ⟨by kernel_rfl, by kernel_rfl, by kernel_rfl⟩
theorem cv3_179 (k : IntKind) (n : Int) : dconv Tryz.prog 3 179 (.int k n) = some (.int .u64 (IntKind.u64.wrap n)) := by kernel_rfl
theorem bd38_2 (k : Int) (s : List UInt8) : dbuild Tryz.prog 38 [(0, .int .i64 k), (1, .str s)] = some (.agg [.int .i64 k, .str s, .bool false]) := by kernel_rfl
theorem bd38_1 (k : Int) : dbuild Tryz.prog 38 [(0, .int .i64 k)] = some (.agg [.int .i64 k, .str [], .bool false]) := by kernel_rfl
theorem bd42_0 : dbuild Tryz.prog 42 [] = some (.agg [.int .i64 0, .int .i64 0, .str [], .str [], .int .i64 0, .str [], .bool false, .int .i64 0, .int .i64 0, .int .i64 0, .list []]) := by kernel_rfl
theorem sl46 (es : List D) (lo hi : Option D) : dslice Tryz.prog 46 (.list es) lo hi none = if szOk 2 es = true then (dopt hi es.length es.length).bind fun h => (dopt lo h 0).map fun l => .list ((es.take h).drop l) else none := by kernel_rfl
theorem zr45 : zeroOf Tryz.prog 45 = some [.int .i64 0, .list []] := by kernel_rfl
theorem zr46 : zeroOf Tryz.prog 46 = some [.list []] := by kernel_rfl
theorem zr4 : zeroOf Tryz.prog 4 = some [.bool false] := by kernel_rfl
theorem sz46 : sizeT Tryz.prog 46 = some 1 := by kernel_rfl
theorem sz43 : sizeT Tryz.prog 43 = some 1 := by kernel_rfl
theorem sz23 : sizeT Tryz.prog 23 = some 1 := by kernel_rfl
theorem zrm45 : zrooms Tryz.prog 45 = [.no, .full] := by kernel_rfl
theorem zrm46 : zrooms Tryz.prog 46 = [.full] := by kernel_rfl
theorem zrm42 : zrooms Tryz.prog 42 = [.no, .no, .no, .no, .no, .no, .no, .no, .no, .no, .full] := by kernel_rfl
theorem bd92 (X : D) (b : Bool) (s : List UInt8) (l1 l2 : List D) : dbuild Tryz.prog 92 [(0, .fix X 0), (1, .agg [.bool b, .str s, .list l1, .list l2])] = some (.agg [.fix X 0, .bool b, .str s, .list l1, .list l2]) := by kernel_rfl
theorem bd51_1 (n : Int) : dbuild Tryz.prog 51 [(0, .int .i64 n)] = some (.agg [.int .i64 n, .str []]) := by kernel_rfl
theorem bd51_2 (n : Int) (s : List UInt8) : dbuild Tryz.prog 51 [(0, .int .i64 n), (1, .str s)] = some (.agg [.int .i64 n, .str s]) := by kernel_rfl
theorem bd42_2 (k : Int) (l : List D) : dbuild Tryz.prog 42 [(0, .int .i64 k), (7, .list l)] = some (.agg [.int .i64 k, .int .i64 0, .str [], .str [], .int .i64 0, .str [], .bool false, .int .i64 0, .int .i64 0, .int .i64 0, .list l]) := by kernel_rfl
theorem bs43_1 (x0 x1 x8 x9 x10 x7 : Int) (s2 s3 s5 : List UInt8) (b6 : Bool) (l : List D) : dbuildSlice Tryz.prog 43 1 [(0, .agg [.int .i64 x0, .int .i64 x1, .str s2, .str s3, .int .i64 x7, .str s5, .bool b6, .int .i64 x8, .int .i64 x9, .int .i64 x10, .list l])] = some (.list [.agg [.int .i64 x0, .int .i64 x1, .str s2, .str s3, .int .i64 x7, .str s5, .bool b6, .int .i64 x8, .int .i64 x9, .int .i64 x10, .list l]]) := by kernel_rfl
theorem bd45_1 (l : List D) : dbuild Tryz.prog 45 [(1, .list l)] = some (.agg [.int .i64 0, .list l]) := by kernel_rfl
theorem bs46_1 (c : Int) (l : List D) : dbuildSlice Tryz.prog 46 1 [(0, .agg [.int .i64 c, .list l])] = some (.list [.agg [.int .i64 c, .list l]]) := by kernel_rfl
theorem bd48_1 (l : List D) : dbuild Tryz.prog 48 [(0, .list l)] = some (.agg [.list l]) := by kernel_rfl
theorem bs23_1 (l : List D) : dbuildSlice Tryz.prog 23 1 [(0, .agg [.list l])] = some (.list [.agg [.list l]]) := by kernel_rfl
theorem sz32 : sizeT Tryz.prog 32 = some 1 := by kernel_rfl
theorem zr51 : zeroOf Tryz.prog 51 = some [.int .i64 0, .str []] := by kernel_rfl
theorem zr48 : zeroOf Tryz.prog 48 = some [.list []] := by kernel_rfl
theorem zr63 : zeroOf Tryz.prog 63 = some [.int .i64 0, .int .i64 0, .int .i64 0] := by kernel_rfl
theorem ptrIn_fn3 (f : Fn) (e1 e2 e3 : D) (l : List D) : ptrIn (.func f [] [.fix e1 0, .fix e2 0, .fix e3 0] :: l) = ptrIn l := rfl
theorem bt23 : bytesT Tryz.prog 23 = false := by kernel_rfl
theorem bt54 : bytesT Tryz.prog 54 = false := by kernel_rfl
theorem mm_max (k k' : IntKind) (a b : Int) : dminmax true [.int k a, .int k' b] = some (.int k (max a b)) := by
 have : (if b > a then b else a) = max a b := by omega
 show some (D.int k (if b > a then b else a)) = _
 rw [this]
theorem mm_min (k k' : IntKind) (a b : Int) : dminmax false [.int k a, .int k' b] = some (.int k (min a b)) := by
 have : (if b < a then b else a) = min a b := by omega
 show some (D.int k (if b < a then b else a)) = _
 rw [this]
end Go.Av.Ys
namespace Go.Av.Y6
open Go.Proofs Go.Av
theorem ty3 : aggOf Tryz.prog 3 = some false ∧ sizeT Tryz.prog 3 = some 1 ∧ Tryz.prog.underlying 3 = some (.int .i64) := ⟨by kernel_rfl, by kernel_rfl, by kernel_rfl⟩
theorem ty4 : aggOf Tryz.prog 4 = some false ∧ sizeT Tryz.prog 4 = some 1 ∧ Tryz.prog.underlying 4 = some .bool := ⟨by kernel_rfl, by kernel_rfl, by kernel_rfl⟩
theorem ty5 : aggOf Tryz.prog 5 = some false ∧ sizeT Tryz.prog 5 = some 1 ∧ Tryz.prog.underlying 5 = some (.int .u8) := ⟨by kernel_rfl, by kernel_rfl, by kernel_rfl⟩
theorem ty9 : aggOf Tryz.prog 9 = some false ∧ sizeT Tryz.prog 9 = some 1 ∧ Tryz.prog.underlying 9 = some .string := ⟨by kernel_rfl, by kernel_rfl, by kernel_rfl⟩
theorem ty23 : aggOf Tryz.prog 38 = some true ∧ sizeT Tryz.prog 38 = some 3 := ⟨by kernel_rfl, by kernel_rfl⟩
theorem ty25 : elemT Tryz.prog 74 = some 5 ∧ Tryz.prog.underlying 74 = some (.slice 5) := ⟨by kernel_rfl, by kernel_rfl⟩
theorem ty41 : elemT Tryz.prog 24 = some 9 ∧ Tryz.prog.underlying 24 = some (.slice 9) := ⟨by kernel_rfl, by kernel_rfl⟩
theorem fap0 (k g off : Nat) : dfieldAddr Tryz.prog 38 (.ptr k g off) 0 = some (.ptr k g (off + 0)) := by kernel_rfl
theorem fap1 (k g off : Nat) : dfieldAddr Tryz.prog 38 (.ptr k g off) 1 = some (.ptr k g (off + 1)) := by kernel_rfl
theorem fap2 (k g off : Nat) : dfieldAddr Tryz.prog 38 (.ptr k g off) 2 = some (.ptr k g (off + 2)) := by kernel_rfl
theorem dp3 (cs : List D) (off : Nat) : dpart Tryz.prog 3 cs off = cs[off]? := by simp only [dpart, ty3.1]
theorem dp4 (cs : List D) (off : Nat) : dpart Tryz.prog 4 cs off = cs[off]? := by simp only [dpart, ty4.1]
theorem dp5 (cs : List D) (off : Nat) : dpart Tryz.prog 5 cs off = cs[off]? := by simp only [dpart, ty5.1]
theorem dp9 (cs : List D) (off : Nat) : dpart Tryz.prog 9 cs off = cs[off]? := by simp only [dpart, ty9.1]
theorem dp23 (a b c : D) : dpart Tryz.prog 38 [a, b, c] 0 = some (.agg [a, b, c]) := by simp only [dpart, ty23.1, ty23.2]; rfl
theorem ia25r (k g m : Nat) (ag : Bool) (ki : IntKind) (i : Int) : dindexAddr Tryz.prog 74 (.row k g m 1 ag) (.int ki i) = if 0 ≤ i ∧ i < m then some (.ptr k g (i.toNat * 1)) else none := by
 simp only [dindexAddr, ty25.1, ty5.2.1, and_true]
theorem ia25 (es : List D) (ki : IntKind) (i : Int) : dindexAddr Tryz.prog 74 (.list es) (.int ki i) = if 0 ≤ i ∧ i < es.length then (if (dcells (es.getD i.toNat .bad)).length = 1 then some (.fix (es.getD i.toNat .bad) 0) else none) else none := by
 simp only [dindexAddr, ty25.1, ty5.2.1]
theorem ia41 (es : List D) (ki : IntKind) (i : Int) : dindexAddr Tryz.prog 24 (.list es) (.int ki i) = if 0 ≤ i ∧ i < es.length then (if (dcells (es.getD i.toNat .bad)).length = 1 then some (.fix (es.getD i.toNat .bad) 0) else none) else none := by
 simp only [dindexAddr, ty41.1, ty9.2.1]
theorem len9 (l : List UInt8) : dlen Tryz.prog #[9] (.str l) = some (.int .i64 l.length) := by kernel_rfl
theorem len25 (l : List D) : dlen Tryz.prog #[74] (.list l) = some (.int .i64 l.length) := by kernel_rfl
theorem len25r (k g n sz : Nat) (ag : Bool) : dlen Tryz.prog #[74] (.row k g n sz ag) = some (.int .i64 n) := by kernel_rfl
theorem len41 (l : List D) : dlen Tryz.prog #[24] (.list l) = some (.int .i64 l.length) := by kernel_rfl
theorem ix9 (l : List UInt8) (k : IntKind) (n : Int) : dindex Tryz.prog 9 (.str l) (.int k n) = if 0 ≤ n ∧ n < l.length then some (.int .u8 ((l.getD n.toNat 0).toNat)) else none := by kernel_rfl
theorem sl9 (s : List UInt8) (lo hi : Option D) : dslice Tryz.prog 9 (.str s) lo hi none = (dopt hi s.length s.length).bind fun h => (dopt lo h 0).map fun l => .str ((s.take h).drop l) := by kernel_rfl
theorem cv53 (k : IntKind) (n : Int) : dconv Tryz.prog 5 3 (.int k n) = some (.int .i64 (IntKind.i64.wrap n)) := by kernel_rfl
theorem cv35 (k : IntKind) (n : Int) : dconv Tryz.prog 3 5 (.int k n) = some (.int .u8 (IntKind.u8.wrap n)) := by kernel_rfl
theorem cv925 (l : List UInt8) : dconv Tryz.prog 9 74 (.str l) = some (.list (l.map fun b => .int .u8 b.toNat)) := by kernel_rfl
theorem cv259 (es : List D) : dconv Tryz.prog 74 9 (.list es) = (bytesOf es).map .str := by kernel_rfl
theorem bt25 : bytesT Tryz.prog 74 = true := by kernel_rfl
theorem ap25 (es fs : List D) (r : List Room) : dappend Tryz.prog #[74, 74] (.list es) (.list fs) r = if lenOk (es.length + fs.length) 1 = true ∧ szOk 1 fs = true ∧ szOk 1 es = true ∧ (r = [.full] ∨ r = [.own 5] ∨ r = [.fresh]) then some (.list (es ++ fs), 5) else none := by
 have : (Tryz.prog.info? 5).map (fun i => (infoOk i, i.size, i.bytes)) = some (true, 1, 1) := by kernel_rfl
 obtain ⟨i, hi, h⟩ := Option.map_eq_some_iff.1 this
 injection h with h1 h2
 injection h2 with h2 h3
 simp only [dappend, ty25.1, hi, h1, h2, h3, if_true, true_and]
theorem bt41 : bytesT Tryz.prog 24 = false := by kernel_rfl
theorem ap41 (es fs : List D) (r : List Room) : dappend Tryz.prog #[24, 24] (.list es) (.list fs) r = if lenOk (es.length + fs.length) 16 = true ∧ szOk 1 fs = true ∧ szOk 1 es = true ∧ (r = [.full] ∨ r = [.own 9] ∨ r = [.fresh]) then some (.list (es ++ fs), 9) else none := by
 have : (Tryz.prog.info? 9).map (fun i => (infoOk i, i.size, i.bytes)) = some (true, 1, 16) := by kernel_rfl
 obtain ⟨i, hi, h⟩ := Option.map_eq_some_iff.1 this
 injection h with h1 h2
 injection h2 with h2 h3
 simp only [dappend, ty41.1, hi, h1, h2, h3, if_true, true_and]
theorem bs25 (k : IntKind) (n : Int) : dbuildSlice Tryz.prog 74 1 [(0, .int k n)] = some (.list [.int k n]) := by kernel_rfl
theorem bs41 (l : List UInt8) : dbuildSlice Tryz.prog 24 1 [(0, .str l)] = some (.list [.str l]) := by kernel_rfl
theorem bs25e : dbuildSlice Tryz.prog 74 0 [] = some (.list []) := by kernel_rfl
theorem bs41e : dbuildSlice Tryz.prog 24 0 [] = some (.list []) := by kernel_rfl
theorem zr23 : zeroOf Tryz.prog 38 = some [.int .i64 0, .str [], .bool false] := by kernel_rfl
end Go.Av.Y6
set_option maxRecDepth 100000
namespace Go.Av
open Go.Proofs
theorem An {a b : Prop} (x : a) (y : b) : a ∧ b := ⟨x, y⟩
def AVB_ := PLift.up (An (An (An (An (An (An (An (An @go_nil (An @go_seq @go_cond)) (An @go_block (An @go_blk @go_skip))) (An (An @go_exit (An @go_retc @go_xcode)) (An @go_xblk (An @go_loop @go_region)))) (An (An (An @go_draw (An @go_ops_nil @go_dops_nil)) (An @go_ops (An @go_dops @okG_some))) (An (An @okB_some (An @gwD_bool @gwD_undef)) (An (An @cwD_bool @gw_true) (An @gw_false @guardG_none))))) (An (An (An (An @guardG.eq_1 (An @guardG.eq_2 @opG.eq_1)) (An @opD.eq_1 (An @isPtr.eq_1 @isPtr.eq_2))) (An (An @inB.eq_1 (An @sval.eq_1 @stake.eq_1)) (An @eats.eq_1 (An @eats.eq_2 @eaters.eq_1)))) (An (An (An @get.eq_1 (An @get.eq_2 @get.eq_3)) (An @get.eq_4 (An @cval.eq_1 @cval.eq_2))) (An (An @cval1.eq_1 (An @cval1.eq_2 @cval1.eq_3)) (An (An @cval1.eq_4 @cval1.eq_5) (An @cval1.eq_6 @cval1.eq_7)))))) (An (An (An (An (An @cval1.eq_8 (An @cval1.eq_9 @croom.eq_1)) (An @croom.eq_2 (An @St.taken.eq_1 @St.taken.eq_2))) (An (An @St.taken.eq_3 (An @put_slot @put_room)) (An @put_box (An @put_ctr @put_none)))) (An (An (An @dem_none (An @dem_slot @dem_box)) (An @dem_ctr (An @dem_room @dem_room1))) (An (An @setBox_slot (An @setBox_room @setBox_ctr)) (An (An @setBox_box @entry_slot) (An @entry_room @entry_box))))) (An (An (An (An @entry_ctr (An @endQ.eq_1 @endQ.eq_2)) (An @endR.eq_1 (An @endR.eq_2 @endV.eq_1))) (An (An @endV.eq_2 (An @rvars.eq_1 @rvars.eq_2)) (An @rvar.eq_1 (An @rvar.eq_2 @room1.eq_1)))) (An (An (An @room1.eq_2 (An @decide_true @decide_false)) (An (@List.filterMap_cons.{0, 0}) (An (@List.filterMap_nil.{0, 0}) (@Option.bind_some.{0, 0})))) (An (An (@Option.map_some.{0, 0}) (An (@Option.bind_none.{0, 0}) (@Option.map_none.{0, 0}))) (An (An @List.getElem?_cons_zero.{0} @List.getElem?_cons_succ.{0}) (An @List.getD_cons_zero.{0} @List.getD_cons_succ.{0}))))))) (An (An (An (An (An (An @List.contains_cons.{0} (An @List.contains_nil.{0} (@List.map_cons.{0, 0}))) (An (@List.map_nil.{0, 0}) (An @beq_self_eq_true.{0} @beq_iff_eq.{0}))) (An (An @Bool.or_false (An @Bool.false_or @Bool.or_true)) (An @Bool.true_or (An @Bool.and_true @Bool.true_and)))) (An (An (An @Bool.false_eq_true (An @dbin.eq_1 @dbin.eq_2)) (An @dbin.eq_3 (An @dbin.eq_4 @dbin.eq_5))) (An (An @dbin.eq_6 (An @dbin.eq_7 @dbin.eq_8)) (An (An @dbin.eq_9 @dbin.eq_10) (An @dbin.eq_11 @okR.eq_1))))) (An (An (An (An @okR.eq_2 (An @okR.eq_3 @okR.eq_4)) (An @callG.eq_1 (An @callG.eq_2 @endN.eq_1))) (An (An @endN.eq_2 (An @newV.eq_1 @newV.eq_2)) (An @rowS (An @frzS @frzOf_def)))) (An (An (An @frz_nil (An @frz_cons @frzD.eq_1)) (An @frzD.eq_2 (An @frzD.eq_3 @rowList.eq_1))) (An (An @rowList.eq_2 (An @rowElem.eq_1 @stepRow.eq_1)) (An (An @madeRow.eq_1 @isLocal.eq_1) (An @isAlloc.eq_1 @loadsOwn.eq_1)))))) (An (An (An (An (An @ptrAt.eq_1 (An @beq_true @beq_false)) (An @Bool.not_true (An @Bool.not_false @pureB.eq_1))) (An (An @pureB.eq_2 (An @leaf.eq_1 @leafN.eq_1)) (An @leafN.eq_2 (An @leafN.eq_3 @leafN.eq_4)))) (An (An (An @leafN.eq_5 (An @leafN.eq_6 @leafN.eq_7)) (An @leafN.eq_8 (An @leafN.eq_9 @leafN.eq_10))) (An (An @List.all_cons.{0} (An @List.all_nil.{0} @List.nil_append.{0})) (An (An @List.cons_append.{0} @List.append_nil.{0}) (An @List.take_nil.{0} @List.range_zero))))) (An (An (An (An @List.length_nil.{0} (An @List.length_cons.{0} @Bool.true_beq)) (An @Bool.false_beq (An @List.find?_cons.{0} @List.find?_nil.{0}))) (An (An @dun.eq_1 (An @dun.eq_2 @dun.eq_3)) (An @List.getElem?_nil.{0} (An @List.take_zero.{0} @List.drop_zero.{0})))) (An (An (An @List.take_succ_cons.{0} (An @List.drop_succ_cons.{0} @dcells.eq_1)) (An @dcells.eq_2 (An @Nat.zero_add @stepBox.eq_1))) (An (An @Bool.and_false (An @Bool.false_and @and_true)) (An (An @true_and @Option.getD_some.{0}) (An @List.singleton_append.{0} (@List.map_map.{0, 0, 0}))))))))) (An (An (An (An (An (An (An @Int.natCast_nonneg (An @Int.toNat_natCast @and_self)) (An @Nat.mul_one (An @Nat.add_zero @if_true.{0}))) (An (An @St.freeze.eq_1 (An @false_or @or_true)) (An @true_or (An @or_false @szOk_cons)))) (An (An (An @szOk_nil (An @List.cons.injEq.{0} @false_and)) (An @and_false (An @forall_const.{0} @List.getElem?_toArray.{0}))) (An (An @List.getElem_toArray.{0} (An @dopt.eq_1 @dopt.eq_2)) (An (An @dbound.eq_1 @dbound.eq_2) (An @ge_iff_le.{0} @gt_iff_lt.{0}))))) (An (An (An (An @dStrBin.eq_1 (An @dStrBin.eq_2 @dStrBin.eq_3)) (An @dStrBin.eq_4 (An @dStrBin.eq_5 @dStrBin.eq_6))) (An (An @dStrBin.eq_7 (An @dStrBin.eq_8 @List.take_length.{0})) (An @plainR_s (An @isBar.eq_1 @optIn.eq_1)))) (An (An (An @optIn.eq_2 (An @allocKeys.eq_1 @takes.eq_1)) (An @ptrArgs.eq_1 (An @callArgs.eq_1 @ptrIn_nil))) (An (An @ptrIn_int (An @ptrIn_bool @ptrIn_str)) (An (An @ptrIn_agg @ptrIn_list) (An @ptrIn_fix @ptrIn_con)))))) (An (An (An (An (An @ptrIn_ptr (An @ptrIn1.eq_1 @ptrIn1.eq_2)) (An @ptrIn1.eq_3 (An @ren.eq_1 @ren.eq_2))) (An (An @ren1.eq_1 (An @ren1.eq_2 @argOk.eq_1)) (An @argOk.eq_2 (An @argOk.eq_3 @argOk1.eq_1)))) (An (An (An @argOk1.eq_2 (An @given.eq_1 @given.eq_2)) (An @oroom.eq_1 (An @oroom.eq_2 @clearR.eq_1))) (An (An @clearR.eq_2 (An @clearR.eq_3 @clearR.eq_4)) (An (An @vroom.eq_1 @vroom.eq_2) (An @vroom.eq_3 @nilR.eq_1))))) (An (An (An (An @nilR.eq_2 (An @Option.isSome_none.{0} @Option.isSome_some.{0})) (An @stepTake.eq_1 (An @stepPtr.eq_1 @notAgg.eq_1))) (An (An @notAgg.eq_2 (An @ite_self.{0} @ty3)) (An @dp3 (An @ty4 @dp4)))) (An (An (An @ty9 (An @dp9 @ty5)) (An @dp5 (An @ty74 @dp74))) (An (An @ty26 (An @dp26 @fa26_0)) (An (An @fp26_0 @fa26_1) (An @fp26_1 @fa26_2))))))) (An (An (An (An (An (An @fp26_2 (An @fa26_3 @fp26_3)) (An @fa26_4 (An @fp26_4 @fa26_5))) (An (An @fp26_5 (An @fa26_6 @fp26_6)) (An @ty54 (An @dp54 @fa54_0)))) (An (An (An @fp54_0 (An @fa54_1 @fp54_1)) (An @fa54_2 (An @fp54_2 @zr26))) (An (An @zr54 (An @ty22 @dp22)) (An (An @ia22 @len22) (An @sl22 @ty23))))) (An (An (An (An @dp23 (An @ia23 @len23)) (An @sl23 (An @ty24 @dp24))) (An (An @ia24 (An @len24 @sl24)) (An @ty39 (An @dp39 @ia39)))) (An (An (An @len39 (An @sl39 @ty81)) (An @dp81 (An @ia81 @len81))) (An (An @sl81 (An @len9 @eq54)) (An (An @sl121 @cv981) (An @gl1 @noEatS)))))) (An (An (An (An (An @ptrIn_fn0 (An @ptrIn_fn1 @ptrIn_fn2)) (An @Option.some.injEq.{0} (An @frzOps_nil @zrm26))) (An (An @zrm54 (An @putR7 @putR3)) (An @List.drop_nil.{0} (An @bd26 @ap22)))) (An (An (An @ap39 (An @bs22e @bs39e)) (An @bs39 (An @bs22 @shA34))) (An (An @shB34 (An @shC32 @shD32)) (An (An @dNilEq.eq_1 @dNilEq.eq_2) (An @dNilEq.eq_3 @dNilEq.eq_4))))) (An (An (An (An @dNilEq.eq_5 (An @dNilEq.eq_6 @dNilEq.eq_7)) (An @dNilEq.eq_8 (An @dNilEq.eq_9 @dNilEq.eq_10))) (An (An @dNilEq.eq_11 (An @isLit.eq_1 @isLit.eq_2)) (An (An @ty57 @dp57) (An @fa59_0 @fa59_1)))) (An (An (An @fa59_2 (An @fa59_3 @lk57)) (An @en34 (An @en34n @ee34n))) (An (An @ee32 (An @en32 @bt39)) (An (An @bt22 @bt23) (An @bt24 @lenOk_small)))))))))
theorem AVB : type_of% AVB_.down := AVB_.down
def AVY_ := PLift.up (An (An (An (An (An (An (An @Ys.ty3 @Ys.dp3) (An @Ys.ty4 (An @Ys.dp4 @Ys.ty9))) (An (An @Ys.dp9 @Ys.len9) (An @Ys.ty38 (An @Ys.dp38 @Ys.fa38_0)))) (An (An (An @Ys.fp38_0 @Ys.fa38_1) (An @Ys.fp38_1 (An @Ys.fa38_2 @Ys.fp38_2))) (An (An @Ys.ty40 (An @Ys.dp40 @Ys.fa40_0)) (An @Ys.fp40_0 (An @Ys.fa40_1 @Ys.fp40_1))))) (An (An (An (An @Ys.ty42 @Ys.dp42) (An @Ys.fa42_0 (An @Ys.fp42_0 @Ys.fa42_1))) (An (An @Ys.fp42_1 @Ys.fa42_2) (An @Ys.fp42_2 (An @Ys.fa42_3 @Ys.fp42_3)))) (An (An (An @Ys.fa42_4 @Ys.fp42_4) (An @Ys.fa42_5 (An @Ys.fp42_5 @Ys.fa42_6))) (An (An @Ys.fp42_6 (An @Ys.fa42_7 @Ys.fp42_7)) (An @Ys.ty45 (An @Ys.dp45 @Ys.fa45_0)))))) (An (An (An (An (An @Ys.fp45_0 @Ys.fa45_1) (An @Ys.fp45_1 (An @Ys.ty48 @Ys.dp48))) (An (An @Ys.fa48_0 @Ys.fp48_0) (An @Ys.ty26 (An @Ys.dp26 @Ys.fa26_0)))) (An (An (An @Ys.fp26_0 @Ys.fa26_1) (An @Ys.fp26_1 (An @Ys.fa26_2 @Ys.fp26_2))) (An (An @Ys.fa26_3 (An @Ys.fp26_3 @Ys.ty92)) (An @Ys.dp92 (An @Ys.fa92_0 @Ys.fp92_0))))) (An (An (An (An @Ys.fa92_1 @Ys.fp92_1) (An @Ys.ty51 (An @Ys.dp51 @Ys.fa51_0))) (An (An @Ys.fp51_0 @Ys.fa51_1) (An @Ys.fp51_1 (An @Ys.dp26_1_5 @Ys.dp38_4_11)))) (An (An (An @Ys.dp40_8_11 @Ys.ty24) (An @Ys.dp24 (An @Ys.ia24 @Ys.len24))) (An (An @Ys.ty43 (An @Ys.dp43 @Ys.ia43)) (An @Ys.len43 (An @Ys.ty46 @Ys.dp46))))))) (An (An (An (An (An (An @Ys.ia46 @Ys.len46) (An @Ys.ty23 (An @Ys.dp23 @Ys.ia23))) (An (An @Ys.len23 @Ys.ty81) (An @Ys.dp81 (An @Ys.ia81 @Ys.len81)))) (An (An (An @Ys.zr42 @Ys.zr38) (An @Ys.c0e (An @Ys.ty32 @Ys.dp32))) (An (An @Ys.ty179 (An @Ys.cv3_179 @Ys.bd38_2)) (An @Ys.bd38_1 (An @Ys.bd42_0 @Ys.sl46))))) (An (An (An (An @Ys.zr45 @Ys.zr46) (An @Ys.zr4 (An @Ys.sz46 @Ys.sz43))) (An (An @Ys.sz23 @Ys.zrm45) (An @Ys.zrm46 (An @Ys.zrm42 @Ys.bd92)))) (An (An (An @Ys.bd51_1 @Ys.bd51_2) (An @Ys.bd42_2 (An @Ys.bs43_1 @Ys.bd45_1))) (An (An @Ys.bs46_1 (An @Ys.bd48_1 @Ys.bs23_1)) (An @Ys.sz32 (An @Ys.zr51 @Ys.zr48)))))) (An (An (An (An (An @Ys.zr63 @Ys.ptrIn_fn3) (An @Ys.bt23 (An @Ys.bt54 @Ys.mm_max))) (An (An @Ys.mm_min @Y6.ap41) (An @Y6.bs41e (An @Y6.bt41 @Y6.ty3)))) (An (An (An @Y6.ty4 @Y6.ty5) (An @Y6.ty9 (An @Y6.ty23 @Y6.ty25))) (An (An @Y6.ty41 (An @Y6.fap0 @Y6.fap1)) (An @Y6.fap2 (An @Y6.dp3 @Y6.dp4))))) (An (An (An (An @Y6.dp5 @Y6.dp9) (An @Y6.dp23 (An @Y6.ia25r @Y6.ia25))) (An (An @Y6.ia41 (An @Y6.len9 @Y6.len25)) (An @Y6.len25r (An @Y6.len41 @Y6.ix9)))) (An (An (An @Y6.sl9 @Y6.cv53) (An @Y6.cv35 (An @Y6.cv925 @Y6.cv259))) (An (An @Y6.bt25 (An @Y6.ap25 @Y6.bs25)) (An @Y6.bs41 (An @Y6.bs25e @Y6.zr23))))))))
theorem AVY : type_of% AVY_.down := AVY_.down
def AVL_ := PLift.up (An (An (An (An (An @put_slot @put_room) (An @put_box @put_ctr)) (An (An @put_none @dem_none) (An @dem_slot @dem_box))) (An (An (An @dem_ctr @dem_room) (An @dem_room1 @setBox_slot)) (An (An @setBox_room @setBox_ctr) (An @setBox_box (An @entry_slot @entry_room))))) (An (An (An (An @entry_box @entry_ctr) (An @St.taken.eq_1 @St.taken.eq_2)) (An (An @St.taken.eq_3 @Option.some.injEq.{0}) (An @List.cons.injEq.{0} (@List.map_nil.{0, 0})))) (An (An (An (@List.map_cons.{0, 0}) @beq_self_eq_true.{0}) (An @and_true @true_and)) (An (An @or_true @true_or) (An @or_false (An @false_or @and_self))))))
theorem AVL : type_of% AVL_.down := AVL_.down
def AVH_ := PLift.up (An (An (An @beq_true @beq_false) (An @Bool.not_eq_eq_eq_not (An @Bool.not_true @Bool.not_false))) (An (An @Bool.not_not @decide_eq_true_eq) (An @decide_eq_false_iff_not (An @ge_iff_le.{0} @gt_iff_lt.{0}))))
theorem AVH : type_of% AVH_.down := AVH_.down
theorem Q {p q : Prop} (k : q) (h : q → p := by intro k; repeat' (first|simp only [*, -k, AVB, ↓reduceIte, Nat.reduceEqDiff, Nat.reduceLT, Nat.reduceLeDiff, reduceCtorEq, Nat.reduceBEq, String.reduceBEq, Nat.reduceAdd, Nat.reduceSub, Nat.reduceMul, Int.reduceLE, Int.reduceLT, Int.reduceToNat, Int.reduceBEq, Int.reduceBNe, List.zipWith, dIntBin]|refine drW_intro (by kernel_rfl) ?_|refine gw_intro (fun h => ?_) (fun h => ?_) <;> try simp only [AVH] at h|exact k)) : p := h k
theorem W {p : Prop} (h : p := by repeat' (first|simp only [*, AVB, ↓reduceIte, Nat.reduceEqDiff, Nat.reduceLT, Nat.reduceLeDiff, reduceCtorEq, Nat.reduceBEq, String.reduceBEq, Nat.reduceAdd, Nat.reduceSub, Nat.reduceMul, Int.reduceLE, Int.reduceLT, Int.reduceToNat, Int.reduceBEq, Int.reduceBNe, List.zipWith, dIntBin]|refine drW_intro (by kernel_rfl) ?_|refine gw_intro (fun h => ?_) (fun h => ?_) <;> try simp only [AVH] at h)) : p := h
theorem G {p q : Prop} (k : q) (h : p = q := by simp only [*, AVB, ↓reduceIte, Nat.reduceEqDiff, Nat.reduceLT, Nat.reduceLeDiff, reduceCtorEq, Nat.reduceBEq, String.reduceBEq, Nat.reduceAdd, Nat.reduceSub, Nat.reduceMul, Int.reduceLE, Int.reduceLT, Int.reduceToNat, Int.reduceBEq, Int.reduceBNe, List.zipWith, dIntBin]; rfl) : p := by rw [h]; exact k
theorem I {p : Prop} (h : p := by first | (simp only [*, AVB, ↓reduceIte, Nat.reduceEqDiff, Nat.reduceLT, Nat.reduceLeDiff, reduceCtorEq, Nat.reduceBEq, String.reduceBEq, Nat.reduceAdd, Nat.reduceSub, Nat.reduceMul, Int.reduceLE, Int.reduceLT, Int.reduceToNat, Int.reduceBEq, Int.reduceBNe, List.zipWith, dIntBin]; done) | (simp only [*, AVB, ↓reduceIte, Nat.reduceEqDiff, Nat.reduceLT, Nat.reduceLeDiff, reduceCtorEq, Nat.reduceBEq, String.reduceBEq, Nat.reduceAdd, Nat.reduceSub, Nat.reduceMul, Int.reduceLE, Int.reduceLT, Int.reduceToNat, Int.reduceBEq, Int.reduceBNe, List.zipWith, dIntBin]; rfl) | rfl) : p := h
theorem Z {p : Prop} (h : p := by simp only [slotI, *, AVB, ↓reduceIte, Nat.reduceEqDiff, Nat.reduceLT, Nat.reduceLeDiff, reduceCtorEq, Nat.reduceBEq, String.reduceBEq, Nat.reduceAdd, Nat.reduceSub, Nat.reduceMul, Int.reduceLE, Int.reduceLT, Int.reduceToNat, Int.reduceBEq, Int.reduceBNe, List.zipWith, dIntBin]; omega) : p := h
theorem cW {P : Program} {ext : FuncId → List D → List Bx → Option (D × List Room × List Bx)} (m r : Nat) {f : FuncId} {fn : Func} {c : Code} {args : List D} {pbs : List Bx} {R : D × List Room × List Bx} (hf : P.funcs[f]? = some fn)
  (hx : ext f args pbs = none := by exact rfl) (hb : fn.body = some c := by exact rfl) (hm : max args.length fn.ntmps = m := by exact rfl) (hres : resTmps fn = [r] := by exact rfl) (hrs : fn.results.toList = [.tmp r] := by exact rfl) (hn : noTwice [r] = true := by exact rfl) (h : goX P ext m [r] (endQ P [.tmp r] pbs.length R) [.code c] .normal (entry args pbs) := by repeat' (first|simp only [*, AVB, ↓reduceIte, Nat.reduceEqDiff, Nat.reduceLT, Nat.reduceLeDiff, reduceCtorEq, Nat.reduceBEq, String.reduceBEq, Nat.reduceAdd, Nat.reduceSub, Nat.reduceMul, Int.reduceLE, Int.reduceLT, Int.reduceToNat, Int.reduceBEq, Int.reduceBNe, List.zipWith, dIntBin]|refine drW_intro (by kernel_rfl) ?_|refine gw_intro (fun h => ?_) (fun h => ?_) <;> try simp only [AVH] at h)) : callL P ext f args pbs = some R :=
  callK hx hf hb hm hres hrs hn h
theorem Qy {p q : Prop} (k : q) (h : q → p := by intro k; repeat' (first|simp only [*, -k, AVB, AVY, ↓reduceIte, Nat.reduceEqDiff, Nat.reduceLT, Nat.reduceLeDiff, reduceCtorEq, Nat.reduceBEq, String.reduceBEq, Nat.reduceAdd, Nat.reduceSub, Nat.reduceMul, Int.reduceLE, Int.reduceLT, Int.reduceToNat, Int.reduceBEq, Int.reduceBNe, List.zipWith, dIntBin]|refine drW_intro (by kernel_rfl) ?_|refine gw_intro (fun h => ?_) (fun h => ?_) <;> try simp only [AVH] at h|exact k)) : p := h k
theorem Wy {p : Prop} (h : p := by repeat' (first|simp only [*, AVB, AVY, ↓reduceIte, Nat.reduceEqDiff, Nat.reduceLT, Nat.reduceLeDiff, reduceCtorEq, Nat.reduceBEq, String.reduceBEq, Nat.reduceAdd, Nat.reduceSub, Nat.reduceMul, Int.reduceLE, Int.reduceLT, Int.reduceToNat, Int.reduceBEq, Int.reduceBNe, List.zipWith, dIntBin]|refine drW_intro (by kernel_rfl) ?_|refine gw_intro (fun h => ?_) (fun h => ?_) <;> try simp only [AVH] at h)) : p := h
theorem Gy {p q : Prop} (k : q) (h : p = q := by simp only [*, AVB, AVY, ↓reduceIte, Nat.reduceEqDiff, Nat.reduceLT, Nat.reduceLeDiff, reduceCtorEq, Nat.reduceBEq, String.reduceBEq, Nat.reduceAdd, Nat.reduceSub, Nat.reduceMul, Int.reduceLE, Int.reduceLT, Int.reduceToNat, Int.reduceBEq, Int.reduceBNe, List.zipWith, dIntBin]; rfl) : p := by rw [h]; exact k
theorem Iy {p : Prop} (h : p := by first | (simp only [*, AVB, AVY, ↓reduceIte, Nat.reduceEqDiff, Nat.reduceLT, Nat.reduceLeDiff, reduceCtorEq, Nat.reduceBEq, String.reduceBEq, Nat.reduceAdd, Nat.reduceSub, Nat.reduceMul, Int.reduceLE, Int.reduceLT, Int.reduceToNat, Int.reduceBEq, Int.reduceBNe, List.zipWith, dIntBin]; done) | (simp only [*, AVB, AVY, ↓reduceIte, Nat.reduceEqDiff, Nat.reduceLT, Nat.reduceLeDiff, reduceCtorEq, Nat.reduceBEq, String.reduceBEq, Nat.reduceAdd, Nat.reduceSub, Nat.reduceMul, Int.reduceLE, Int.reduceLT, Int.reduceToNat, Int.reduceBEq, Int.reduceBNe, List.zipWith, dIntBin]; rfl) | rfl) : p := h
theorem Zy {p : Prop} (h : p := by simp only [slotI, *, AVB, AVY, ↓reduceIte, Nat.reduceEqDiff, Nat.reduceLT, Nat.reduceLeDiff, reduceCtorEq, Nat.reduceBEq, String.reduceBEq, Nat.reduceAdd, Nat.reduceSub, Nat.reduceMul, Int.reduceLE, Int.reduceLT, Int.reduceToNat, Int.reduceBEq, Int.reduceBNe, List.zipWith, dIntBin]; omega) : p := h
theorem cWy {P : Program} {ext : FuncId → List D → List Bx → Option (D × List Room × List Bx)} (m r : Nat) {f : FuncId} {fn : Func} {c : Code} {args : List D} {pbs : List Bx} {R : D × List Room × List Bx} (hf : P.funcs[f]? = some fn)
  (hx : ext f args pbs = none := by exact rfl) (hb : fn.body = some c := by exact rfl) (hm : max args.length fn.ntmps = m := by exact rfl) (hres : resTmps fn = [r] := by exact rfl) (hrs : fn.results.toList = [.tmp r] := by exact rfl) (hn : noTwice [r] = true := by exact rfl) (h : goX P ext m [r] (endQ P [.tmp r] pbs.length R) [.code c] .normal (entry args pbs) := by repeat' (first|simp only [*, AVB, AVY, ↓reduceIte, Nat.reduceEqDiff, Nat.reduceLT, Nat.reduceLeDiff, reduceCtorEq, Nat.reduceBEq, String.reduceBEq, Nat.reduceAdd, Nat.reduceSub, Nat.reduceMul, Int.reduceLE, Int.reduceLT, Int.reduceToNat, Int.reduceBEq, Int.reduceBNe, List.zipWith, dIntBin]|refine drW_intro (by kernel_rfl) ?_|refine gw_intro (fun h => ?_) (fun h => ?_) <;> try simp only [AVH] at h)) : callL P ext f args pbs = some R :=
  callK hx hf hb hm hres hrs hn h
theorem Qu {p q : Prop} (k : q) (h : q → p := by intro k; repeat' (first|simp only [*, -k, AVB, ↓reduceIte, Nat.reduceEqDiff, Nat.reduceLT, Nat.reduceLeDiff, reduceCtorEq, Nat.reduceBEq, String.reduceBEq, Nat.reduceAdd, Nat.reduceSub, Nat.reduceMul, Int.reduceLE, Int.reduceLT, Int.reduceToNat, Int.reduceBEq, Int.reduceBNe, List.zipWith, ty124, ty126, ty127, fap0, fap1, dp126, ia124, ia127, sl81m, cv53, cv512, cv5129, cv12912, zr126, szU8, takeM, and_w, or_w, and_8, ib_add, ib_sub, ib_eql, ib_neq, ib_lss, ib_leq, ib_gtr, ib_geq, shl8, shl16, shl24, shl32, shl40, shl48, shl56, gl2, gl3]|refine drW_intro (by kernel_rfl) ?_|refine gw_intro (fun h => ?_) (fun h => ?_) <;> try simp only [AVH] at h|exact k)) : p := h k
theorem Wu {p : Prop} (h : p := by repeat' (first|simp only [*, AVB, ↓reduceIte, Nat.reduceEqDiff, Nat.reduceLT, Nat.reduceLeDiff, reduceCtorEq, Nat.reduceBEq, String.reduceBEq, Nat.reduceAdd, Nat.reduceSub, Nat.reduceMul, Int.reduceLE, Int.reduceLT, Int.reduceToNat, Int.reduceBEq, Int.reduceBNe, List.zipWith, ty124, ty126, ty127, fap0, fap1, dp126, ia124, ia127, sl81m, cv53, cv512, cv5129, cv12912, zr126, szU8, takeM, and_w, or_w, and_8, ib_add, ib_sub, ib_eql, ib_neq, ib_lss, ib_leq, ib_gtr, ib_geq, shl8, shl16, shl24, shl32, shl40, shl48, shl56, gl2, gl3]|refine drW_intro (by kernel_rfl) ?_|refine gw_intro (fun h => ?_) (fun h => ?_) <;> try simp only [AVH] at h)) : p := h
theorem Gu {p q : Prop} (k : q) (h : p = q := by simp only [*, AVB, ↓reduceIte, Nat.reduceEqDiff, Nat.reduceLT, Nat.reduceLeDiff, reduceCtorEq, Nat.reduceBEq, String.reduceBEq, Nat.reduceAdd, Nat.reduceSub, Nat.reduceMul, Int.reduceLE, Int.reduceLT, Int.reduceToNat, Int.reduceBEq, Int.reduceBNe, List.zipWith, ty124, ty126, ty127, fap0, fap1, dp126, ia124, ia127, sl81m, cv53, cv512, cv5129, cv12912, zr126, szU8, takeM, and_w, or_w, and_8, ib_add, ib_sub, ib_eql, ib_neq, ib_lss, ib_leq, ib_gtr, ib_geq, shl8, shl16, shl24, shl32, shl40, shl48, shl56, gl2, gl3]; rfl) : p := by rw [h]; exact k
theorem Iu {p : Prop} (h : p := by first | (simp only [*, AVB, ↓reduceIte, Nat.reduceEqDiff, Nat.reduceLT, Nat.reduceLeDiff, reduceCtorEq, Nat.reduceBEq, String.reduceBEq, Nat.reduceAdd, Nat.reduceSub, Nat.reduceMul, Int.reduceLE, Int.reduceLT, Int.reduceToNat, Int.reduceBEq, Int.reduceBNe, List.zipWith, ty124, ty126, ty127, fap0, fap1, dp126, ia124, ia127, sl81m, cv53, cv512, cv5129, cv12912, zr126, szU8, takeM, and_w, or_w, and_8, ib_add, ib_sub, ib_eql, ib_neq, ib_lss, ib_leq, ib_gtr, ib_geq, shl8, shl16, shl24, shl32, shl40, shl48, shl56, gl2, gl3]; done) | (simp only [*, AVB, ↓reduceIte, Nat.reduceEqDiff, Nat.reduceLT, Nat.reduceLeDiff, reduceCtorEq, Nat.reduceBEq, String.reduceBEq, Nat.reduceAdd, Nat.reduceSub, Nat.reduceMul, Int.reduceLE, Int.reduceLT, Int.reduceToNat, Int.reduceBEq, Int.reduceBNe, List.zipWith, ty124, ty126, ty127, fap0, fap1, dp126, ia124, ia127, sl81m, cv53, cv512, cv5129, cv12912, zr126, szU8, takeM, and_w, or_w, and_8, ib_add, ib_sub, ib_eql, ib_neq, ib_lss, ib_leq, ib_gtr, ib_geq, shl8, shl16, shl24, shl32, shl40, shl48, shl56, gl2, gl3]; rfl) | rfl) : p := h
theorem Zu {p : Prop} (h : p := by simp only [slotI, *, AVB, ↓reduceIte, Nat.reduceEqDiff, Nat.reduceLT, Nat.reduceLeDiff, reduceCtorEq, Nat.reduceBEq, String.reduceBEq, Nat.reduceAdd, Nat.reduceSub, Nat.reduceMul, Int.reduceLE, Int.reduceLT, Int.reduceToNat, Int.reduceBEq, Int.reduceBNe, List.zipWith, ty124, ty126, ty127, fap0, fap1, dp126, ia124, ia127, sl81m, cv53, cv512, cv5129, cv12912, zr126, szU8, takeM, and_w, or_w, and_8, ib_add, ib_sub, ib_eql, ib_neq, ib_lss, ib_leq, ib_gtr, ib_geq, shl8, shl16, shl24, shl32, shl40, shl48, shl56, gl2, gl3]; omega) : p := h
theorem cWu {P : Program} {ext : FuncId → List D → List Bx → Option (D × List Room × List Bx)} (m r : Nat) {f : FuncId} {fn : Func} {c : Code} {args : List D} {pbs : List Bx} {R : D × List Room × List Bx} (hf : P.funcs[f]? = some fn)
  (hx : ext f args pbs = none := by exact rfl) (hb : fn.body = some c := by exact rfl) (hm : max args.length fn.ntmps = m := by exact rfl) (hres : resTmps fn = [r] := by exact rfl) (hrs : fn.results.toList = [.tmp r] := by exact rfl) (hn : noTwice [r] = true := by exact rfl) (h : goX P ext m [r] (endQ P [.tmp r] pbs.length R) [.code c] .normal (entry args pbs) := by repeat' (first|simp only [*, AVB, ↓reduceIte, Nat.reduceEqDiff, Nat.reduceLT, Nat.reduceLeDiff, reduceCtorEq, Nat.reduceBEq, String.reduceBEq, Nat.reduceAdd, Nat.reduceSub, Nat.reduceMul, Int.reduceLE, Int.reduceLT, Int.reduceToNat, Int.reduceBEq, Int.reduceBNe, List.zipWith, ty124, ty126, ty127, fap0, fap1, dp126, ia124, ia127, sl81m, cv53, cv512, cv5129, cv12912, zr126, szU8, takeM, and_w, or_w, and_8, ib_add, ib_sub, ib_eql, ib_neq, ib_lss, ib_leq, ib_gtr, ib_geq, shl8, shl16, shl24, shl32, shl40, shl48, shl56, gl2, gl3]|refine drW_intro (by kernel_rfl) ?_|refine gw_intro (fun h => ?_) (fun h => ?_) <;> try simp only [AVH] at h)) : callL P ext f args pbs = some R :=
  callK hx hf hb hm hres hrs hn h
theorem L {p : Prop} (h : p := by simp only [*, AVL, ↓reduceIte, Nat.reduceEqDiff, Nat.reduceLT, Nat.reduceLeDiff, reduceCtorEq]) : p := h
theorem cK {P : Program} {ext : FuncId → List D → List Bx → Option (D × List Room × List Bx)} (m r : Nat) {f : FuncId} {fn : Func} {c : Code} {args : List D} {pbs : List Bx} {R : D × List Room × List Bx} (hf : P.funcs[f]? = some fn) (h : goX P ext m [r] (endQ P [.tmp r] pbs.length R) [.code c] .normal (entry args pbs))
  (hx : ext f args pbs = none := by exact rfl) (hb : fn.body = some c := by exact rfl) (hm : max args.length fn.ntmps = m := by exact rfl) (hres : resTmps fn = [r] := by exact rfl) (hrs : fn.results.toList = [.tmp r] := by exact rfl) (hn : noTwice [r] = true := by exact rfl) : callL P ext f args pbs = some R :=
 callK hx hf hb hm hres hrs hn h
end Go.Av
namespace Go.Av
open Go.Proofs Go.Proofs.YtcogfddcdpgpkaaGreatDoor
variable [Rk] {chk : List D → Bool}
theorem wrap_u64 (n : Int) (h1 : 0 ≤ n) (h2 : n < 18446744073709551616) : IntKind.u64.wrap n = n := by
 simp [IntKind.wrap, IntKind.signed, IntKind.bits]
 omega
theorem map_getD (rs : List Int) (i : Nat) (h : i < rs.length) : (rs.map (D.int .u8)).getD i .bad = .int .u8 (rs.getD i 0) := by
 simp [List.getD, List.getElem?_eq_getElem h]
theorem byte_nat {rs : List Int} (hz : BytesOK rs) (h : 8 ≤ rs.length) (i : Nat) (hi : i < 8) : ∃ x : Nat, rs.getD i 0 = x ∧ x < 256 ∧ (rs.map (D.int .u8)).getD i .bad = .int .u8 (x : Nat) := by
 have h1 := hz i (by omega)
 refine ⟨(rs.getD i 0).toNat, by omega, by omega, ?_⟩
 rw [map_getD rs i (by omega)]
 congr 1
 omega
set_option maxHeartbeats 2000000 in
theorem word_L (rs : List Int) (hz : BytesOK rs) (h : 8 ≤ rs.length) : callL Tryz.prog (ext11b chk) 183 [.list (rs.map (D.int .u8))] [] = some (.int .u64 (wordL rs : Nat), [.no], []) := by
 obtain ⟨x0, e0, h0, g0⟩ := byte_nat hz h 0 (by omega)
 obtain ⟨x1, e1, h1, g1⟩ := byte_nat hz h 1 (by omega)
 obtain ⟨x2, e2, h2, g2⟩ := byte_nat hz h 2 (by omega)
 obtain ⟨x3, e3, h3, g3⟩ := byte_nat hz h 3 (by omega)
 obtain ⟨x4, e4, h4, g4⟩ := byte_nat hz h 4 (by omega)
 obtain ⟨x5, e5, h5, g5⟩ := byte_nat hz h 5 (by omega)
 obtain ⟨x6, e6, h6, g6⟩ := byte_nat hz h 6 (by omega)
 obtain ⟨x7, e7, h7, g7⟩ := byte_nat hz h 7 (by omega)
 have hW : wordL rs = wordN x0 x1 x2 x3 x4 x5 x6 x7 := by unfold wordL; rw [e0, e1, e2, e3, e4, e5, e6, e7]; rfl
 have HW := word_bits h0 h1 h2 h3 h4 h5 h6 h7
 rw [hW]
 have hl : ((rs.map (D.int .u8)).length : Int) = rs.length := by simp
 have l0 : (0 : Int) < rs.length := by omega
 have l1 : (1 : Int) < rs.length := by omega
 have l2 : (2 : Int) < rs.length := by omega
 have l3 : (3 : Int) < rs.length := by omega
 have l4 : (4 : Int) < rs.length := by omega
 have l5 : (5 : Int) < rs.length := by omega
 have l6 : (6 : Int) < rs.length := by omega
 have l7 : (7 : Int) < rs.length := by omega
 have w0 : IntKind.u64.wrap (x0 : Int) = x0 := wrap_u64 _ (by omega) (by omega)
 have w1 : IntKind.u64.wrap (x1 : Int) = x1 := wrap_u64 _ (by omega) (by omega)
 have w2 : IntKind.u64.wrap (x2 : Int) = x2 := wrap_u64 _ (by omega) (by omega)
 have w3 : IntKind.u64.wrap (x3 : Int) = x3 := wrap_u64 _ (by omega) (by omega)
 have w4 : IntKind.u64.wrap (x4 : Int) = x4 := wrap_u64 _ (by omega) (by omega)
 have w5 : IntKind.u64.wrap (x5 : Int) = x5 := wrap_u64 _ (by omega) (by omega)
 have w6 : IntKind.u64.wrap (x6 : Int) = x6 := wrap_u64 _ (by omega) (by omega)
 have w7 : IntKind.u64.wrap (x7 : Int) = x7 := wrap_u64 _ (by omega) (by omega)
 have v1 : IntKind.u64.wrap ((x1 : Int) * 256) = (x1 : Int) * 256 := wrap_u64 _ (by omega) (by omega)
 have v2 : IntKind.u64.wrap ((x2 : Int) * 65536) = (x2 : Int) * 65536 := wrap_u64 _ (by omega) (by omega)
 have v3 : IntKind.u64.wrap ((x3 : Int) * 16777216) = (x3 : Int) * 16777216 := wrap_u64 _ (by omega) (by omega)
 have v4 : IntKind.u64.wrap ((x4 : Int) * 4294967296) = (x4 : Int) * 4294967296 := wrap_u64 _ (by omega) (by omega)
 have v5 : IntKind.u64.wrap ((x5 : Int) * 1099511627776) = (x5 : Int) * 1099511627776 := wrap_u64 _ (by omega) (by omega)
 have v6 : IntKind.u64.wrap ((x6 : Int) * 281474976710656) = (x6 : Int) * 281474976710656 := wrap_u64 _ (by omega) (by omega)
 have v7 : IntKind.u64.wrap ((x7 : Int) * 72057594037927936) = (x7 : Int) * 72057594037927936 := wrap_u64 _ (by omega) (by omega)
 clear e0 e1 e2 e3 e4 e5 e6 e7 h0 h1 h2 h3 h4 h5 h6 h7 hW h hz
 exact cWu 71 2 Tryz.func183
end Go.Av
namespace Go.Av
variable [Rk]
open Go.Proofs Go.Proofs.YtcogfddcdpgpkaaGreatDoor
def clsB (n : Nat) : Bool :=
 decide (bits .and .u8 (firstN n : Nat) 7 = (firstN n % 8 : Nat)) && decide ((firstN n : Int).fdiv 16 = (firstN n / 16 : Nat)) && decide (firstN n < 256) && (n < 128 ||
 (if n < 194 ∨ 244 < n then firstN n % 8 == 1 else if n ≤ 223 then firstN n % 8 == 2 && accN.getD (firstN n / 16 * 2) 0 == 128 && accN.getD (firstN n / 16 * 2 + 1) 0 == 191
  else if n ≤ 239 then firstN n % 8 == 3 && decide ((accN.getD (firstN n / 16 * 2) 0 : Int) = L3 n) && decide ((accN.getD (firstN n / 16 * 2 + 1) 0 : Int) = H3 n)
  else firstN n % 8 == 4 && decide ((accN.getD (firstN n / 16 * 2) 0 : Int) = L4 n) && decide ((accN.getD (firstN n / 16 * 2 + 1) 0 : Int) = H4 n)))
theorem cls_all : (List.range 256).all clsB = true := by decide +kernel
theorem acc_at (q : Nat) (h : q < 16) : dpart Tryz.prog 208 accD (q * 2) = some (.agg [.int .u8 (accN.getD (q * 2) 0 : Nat), .int .u8 (accN.getD (q * 2 + 1) 0 : Nat)]) := by
 rw [dp126]
 rcases (by omega : q = 0 ∨ q = 1 ∨ q = 2 ∨ q = 3 ∨ q = 4 ∨ q = 5 ∨ q = 6 ∨ q = 7 ∨ q = 8 ∨ q = 9 ∨ q = 10 ∨ q = 11 ∨ q = 12 ∨ q = 13 ∨ q = 14 ∨ q = 15) with rfl | rfl | rfl | rfl | rfl | rfl | rfl | rfl | rfl | rfl | rfl | rfl | rfl | rfl | rfl | rfl <;> rfl
theorem cls (x : Int) (h1 : 128 ≤ x) (h2 : x < 256) : ∃ (F : Int) (q : Nat) (lo hi s : Int), firstD[x.toNat]? = some (.int .u8 F) ∧ bits .and .u8 F 7 = s ∧ dShift .shr .u8 F 4 = some (.int .u8 (q : Nat)) ∧ q < 16 ∧
  dpart Tryz.prog 208 accD (q * 2) = some (.agg [.int .u8 lo, .int .u8 hi]) ∧
  ((s = 1 ∧ (x < 194 ∨ 244 < x)) ∨ (s = 2 ∧ 194 ≤ x ∧ x ≤ 223 ∧ lo = 128 ∧ hi = 191) ∨ (s = 3 ∧ 224 ≤ x ∧ x ≤ 239 ∧ lo = L3 x ∧ hi = H3 x) ∨ (s = 4 ∧ 240 ≤ x ∧ x ≤ 244 ∧ lo = L4 x ∧ hi = H4 x)) := by
 obtain ⟨n, rfl⟩ : ∃ n : Nat, x = n := ⟨x.toNat, by omega⟩
 have h := List.all_eq_true.1 cls_all n (List.mem_range.2 (by omega))
 unfold clsB at h
 simp only [Bool.and_eq_true, decide_eq_true_eq, Bool.or_eq_true] at h
 obtain ⟨⟨⟨g1, g2⟩, g3⟩, g4⟩ := h
 have hq : firstN n / 16 < 16 := by omega
 refine ⟨(firstN n : Nat), firstN n / 16, _, _, _, firstD_at n (by omega), g1, ?_, hq, acc_at _ hq, ?_⟩
 ·show some (D.int .u8 ((firstN n : Int).fdiv 16)) = _
  rw [g2]
 ·have g4' := g4.resolve_left (by omega)
  split at g4'
  ·rename_i hc
   simp at g4'
   exact .inl ⟨by omega, by omega⟩
  ·split at g4'
   ·simp only [Bool.and_eq_true, beq_iff_eq] at g4'
    exact .inr (.inl ⟨by omega, by omega, by omega, by rw [g4'.1.2]; rfl, by rw [g4'.2]; rfl⟩)
   ·split at g4'
    ·simp only [Bool.and_eq_true, beq_iff_eq, decide_eq_true_eq] at g4'
     exact .inr (.inr (.inl ⟨by omega, by omega, by omega, g4'.1.2, g4'.2⟩))
    ·simp only [Bool.and_eq_true, beq_iff_eq, decide_eq_true_eq] at g4'
     exact .inr (.inr (.inr ⟨by omega, by omega, by omega, g4'.1.2, g4'.2⟩))
theorem low_test {a : Nat} (ha : a < 18446744073709551616) (h : (bits .and .u64 (a : Int) 9259542123273814144 == 0) = true) : LowN a := by
 rw [and_bits ha, beq_iff_eq] at h
 exact low_of (by omega)
theorem low1 {rs : List Int} (hz : BytesOK rs) (h8 : 8 ≤ rs.length) (h : (bits .and .u64 (wordL rs : Nat) 9259542123273814144 == 0) = true) : ∀ i, i < 8 → rs.getD i 0 < 128 :=
 wordL_low hz h8 (low_test (wordL_lt hz h8) h)
theorem getD_drop (rs : List Int) (k i : Nat) : (rs.drop k).getD i 0 = rs.getD (k + i) 0 := by simp [List.getD]
theorem low2 {rs : List Int} (hz : BytesOK rs) (h8 : 16 ≤ rs.length) (h : (bits .and .u64 (bits .or .u64 (wordL rs : Nat) (wordL (rs.drop 8) : Nat)) 9259542123273814144 == 0) = true) : ∀ i, i < 16 → rs.getD i 0 < 128 := by
 have z1 := wordL_lt hz (by omega : 8 ≤ rs.length)
 have z2 := wordL_lt (hz.drop 8) (by simp; omega : 8 ≤ (rs.drop 8).length)
 rw [or_bits z1 z2] at h
 obtain ⟨l1, l2⟩ := low_or (low_test (or_lt z1 z2) h)
 intro i hi
 by_cases h1 : i < 8
 ·exact wordL_low hz (by omega) l1 i h1
 ·have := wordL_low (hz.drop 8) (by simp; omega) l2 (i - 8) (by omega)
  rw [getD_drop] at this
  rwa [show 8 + (i - 8) = i by omega] at this
theorem low4 {rs : List Int} (hz : BytesOK rs) (h8 : 32 ≤ rs.length)
  (h : (bits .and .u64 (bits .or .u64 (bits .or .u64 (wordL rs : Nat) (wordL (rs.drop 8) : Nat)) (bits .or .u64 (wordL (rs.drop 16) : Nat) (wordL (rs.drop 24) : Nat))) 9259542123273814144 == 0) = true) : ∀ i, i < 32 → rs.getD i 0 < 128 := by
 have z1 := wordL_lt hz (by omega : 8 ≤ rs.length)
 have z2 := wordL_lt (hz.drop 8) (by simp; omega : 8 ≤ (rs.drop 8).length)
 have z3 := wordL_lt (hz.drop 16) (by simp; omega : 8 ≤ (rs.drop 16).length)
 have z4 := wordL_lt (hz.drop 24) (by simp; omega : 8 ≤ (rs.drop 24).length)
 rw [or_bits z1 z2, or_bits z3 z4, or_bits (or_lt z1 z2) (or_lt z3 z4)] at h
 obtain ⟨l12, l34⟩ := low_or (low_test (or_lt (or_lt z1 z2) (or_lt z3 z4)) h)
 obtain ⟨l1, l2⟩ := low_or l12
 obtain ⟨l3, l4⟩ := low_or l34
 intro i hi
 rcases (by omega : i < 8 ∨ (8 ≤ i ∧ i < 16) ∨ (16 ≤ i ∧ i < 24) ∨ (24 ≤ i ∧ i < 32)) with h1 | h1 | h1 | h1
 ·exact wordL_low hz (by omega) l1 i h1
 ·have := wordL_low (hz.drop 8) (by simp; omega) l2 (i - 8) (by omega)
  rw [getD_drop] at this
  rwa [show 8 + (i - 8) = i by omega] at this
 ·have := wordL_low (hz.drop 16) (by simp; omega) l3 (i - 16) (by omega)
  rw [getD_drop] at this
  rwa [show 16 + (i - 16) = i by omega] at this
 ·have := wordL_low (hz.drop 24) (by simp; omega) l4 (i - 24) (by omega)
  rw [getD_drop] at this
  rwa [show 24 + (i - 24) = i by omega] at this
end Go.Av
namespace Go.Av
open Go.Proofs Go.Proofs.YtcogfddcdpgpkaaGreatDoor
variable [Rk] {chk : List D → Bool}
def IV (zs : List Int) (n : Nat) (st : St) : Prop := ∃ rs : List Int, st.slot 0 = .list (rs.map (D.int .u8)) ∧ Hd (BytesOK rs) ∧ Hd (rs.length ≤ n) ∧ Hd (validB rs = validB zs) ∧ st.slot 2 = .bool false ∧ st.room 2 = []
theorem map_drop (rs : List Int) (k : Nat) : (rs.map (D.int .u8)).drop k = (rs.drop k).map (D.int .u8) := List.map_drop.symm
theorem BytesOK.get {rs : List Int} (h : BytesOK rs) {i : Nat} (hi : i < rs.length) : ∃ x : Int, rs.getD i 0 = x ∧ 0 ≤ x ∧ x < 256 ∧ (rs.map (D.int .u8)).getD i .bad = .int .u8 x :=
 ⟨_, rfl, (h i hi).1, (h i hi).2, map_getD rs i hi⟩
theorem wi1 : IntKind.i64.wrap 1 = 1 := rfl
theorem wi2 : IntKind.i64.wrap 2 = 2 := rfl
theorem wi3 : IntKind.i64.wrap 3 = 3 := rfl
theorem wi4 : IntKind.i64.wrap 4 = 4 := rfl
set_option maxHeartbeats 16000000 in
theorem valid_L (zs : List Int) (hz : BytesOK zs) (hl : zs.length < 1000000000) : callL Tryz.prog (ext11b chk) 160 [.list (zs.map (D.int .u8))] [] = some (.bool (validB zs), [.no], []) := by
 have hlN : (zs.map (D.int .u8)).length = zs.length := by simp
 have hta : (zs.map (D.int .u8)).take zs.length = zs.map (D.int .u8) := by rw [← hlN, List.take_length]
 have hll : (zs.length : Int) ≤ zs.length := Int.le_refl _
 have hz' := Hd.mk hz
 clear hz
 refine cK 188 2 Tryz.func160 ?_
 refine Gu ?_
 refine loopH (IV zs zs.length) (fun st => slotL st 0) ?_ ?_
 ·refine ⟨zs, ?_, hz', Nat.le_refl _, rfl, ?_, ?_⟩
  all_goals simp only [*, AVB, ↓reduceIte, Nat.reduceEqDiff, Nat.reduceLT, Nat.reduceLeDiff, reduceCtorEq, Nat.reduceBEq, String.reduceBEq, Nat.reduceAdd, Nat.reduceSub, Nat.reduceMul, Int.reduceLE, Int.reduceLT, Int.reduceToNat, Int.reduceBEq, Int.reduceBNe, List.zipWith, ty124, ty126, ty127, fap0, fap1, dp126, ia124, ia127, sl81m, cv53, cv512, cv5129, cv12912, zr126, szU8, takeM, and_w, or_w, and_8, ib_add, ib_sub, ib_eql, ib_neq, ib_lss, ib_leq, ib_gtr, ib_geq, shl8, shl16, shl24, shl32, shl40, shl48, shl56, gl2, gl3]
 ·rintro st K ⟨rs, h0, hok, hle, hv, h2, hr2⟩ hn hx hr
  clear hlN hta hll hz'
  have lN : (rs.map (D.int .u8)).length = rs.length := List.length_map ..
  by_cases hpos : 0 < rs.length
  ·have p0 : (0 : Int) < rs.length := by omega
   have HP := Hd.mk hpos
   have ok0 : BytesOK rs := hok
   have v0 : validB rs = validB zs := hv
   obtain ⟨x0, e0, m0, n0, g0⟩ := BytesOK.get ok0 hpos
   by_cases hx0 : x0 < 128
   ·have hb1 : (1 : Int) ≤ rs.length := by omega
    have hd1 := map_drop rs 1
    obtain ⟨r1, er1⟩ : ∃ r1, rs.drop 1 = r1 := ⟨_, rfl⟩
    have ok1 : BytesOK r1 := by rw [← er1]; exact ok0.drop 1
    have v1 : validB r1 = validB zs := by rw [← er1, v1_ok (by omega) (by rw [e0]; exact hx0), v0]
    have b1 : r1.length + 1 = rs.length := by rw [← er1, List.length_drop]; omega
    have l1N : (r1.map (D.int .u8)).length = r1.length := List.length_map ..
    rw [er1] at hd1
    by_cases q8 : (8 : Int) < r1.length
    ·have hc1 := word_L (chk := chk) r1 ok1 (by omega)
     cases t1 : (bits .and .u64 (wordL r1 : Nat) 9259542123273814144 == 0) with
     | false =>
      have OKF := Hd.mk ok1; have VF := Hd.mk v1; have BF := Hd.mk (show r1.length ≤ rs.length by omega); have BL := Hd.mk (show r1.length < rs.length by omega)
      clear er1 ok1 v1 b1 ok0 v0 hpos e0 hok hv
      refine Gu ?_
      refine hn _ ⟨r1, ?_, OKF, ?_, VF, ?_, ?_⟩ ?_
      ·exact L
      ·exact Nat.le_trans (show (r1).length ≤ rs.length from BF) (show rs.length ≤ zs.length from hle)
      ·exact L
      ·exact L
      ·have : (r1).length < rs.length := BL
       simp only [slotL, *, AVB, ↓reduceIte, Nat.reduceEqDiff, Nat.reduceLT, Nat.reduceLeDiff, reduceCtorEq, Nat.reduceBEq, String.reduceBEq, Nat.reduceAdd, Nat.reduceSub, Nat.reduceMul, Int.reduceLE, Int.reduceLT, Int.reduceToNat, Int.reduceBEq, Int.reduceBNe, List.zipWith, ty124, ty126, ty127, fap0, fap1, dp126, ia124, ia127, sl81m, cv53, cv512, cv5129, cv12912, zr126, szU8, takeM, and_w, or_w, and_8, ib_add, ib_sub, ib_eql, ib_neq, ib_lss, ib_leq, ib_gtr, ib_geq, shl8, shl16, shl24, shl32, shl40, shl48, shl56, gl2, gl3]
       first | done | omega
     | true =>
      have hb8 : (8 : Int) ≤ r1.length := by omega
      have hd8 := map_drop r1 8
      obtain ⟨r2, er2⟩ : ∃ r2, r1.drop 8 = r2 := ⟨_, rfl⟩
      have ok2 : BytesOK r2 := by rw [← er2]; exact ok1.drop 8
      have v2 : validB r2 = validB zs := by rw [← er2, validB_skip 8 r1 (by omega) (low1 ok1 (by omega) t1), v1]
      have b2 : r2.length + 8 = r1.length := by rw [← er2, List.length_drop]; omega
      have l2N : (r2.map (D.int .u8)).length = r2.length := List.length_map ..
      rw [er2] at hd8
      by_cases q16 : (16 : Int) < r2.length
      ·have hb28 : (8 : Int) ≤ r2.length := by omega
       have hd28 := map_drop r2 8
       have hc2 := word_L (chk := chk) r2 ok2 (by omega)
       have hc2b := word_L (chk := chk) (r2.drop 8) (ok2.drop 8) (by rw [List.length_drop]; omega)
       cases t2 : (bits .and .u64 (bits .or .u64 (wordL r2 : Nat) (wordL (r2.drop 8) : Nat)) 9259542123273814144 == 0) with
       | false =>
        have OKF := Hd.mk ok2; have VF := Hd.mk v2; have BF := Hd.mk (show r2.length ≤ rs.length by omega); have BL := Hd.mk (show r2.length < rs.length by omega)
        clear er1 er2 ok1 ok2 v1 v2 b1 b2 ok0 v0 hpos e0 hok hv
        refine Qu ?_
        refine hn _ ⟨r2, ?_, OKF, ?_, VF, ?_, ?_⟩ ?_
        ·exact L
        ·exact Nat.le_trans (show (r2).length ≤ rs.length from BF) (show rs.length ≤ zs.length from hle)
        ·exact L
        ·exact L
        ·have : (r2).length < rs.length := BL
         simp only [slotL, *, AVB, ↓reduceIte, Nat.reduceEqDiff, Nat.reduceLT, Nat.reduceLeDiff, reduceCtorEq, Nat.reduceBEq, String.reduceBEq, Nat.reduceAdd, Nat.reduceSub, Nat.reduceMul, Int.reduceLE, Int.reduceLT, Int.reduceToNat, Int.reduceBEq, Int.reduceBNe, List.zipWith, ty124, ty126, ty127, fap0, fap1, dp126, ia124, ia127, sl81m, cv53, cv512, cv5129, cv12912, zr126, szU8, takeM, and_w, or_w, and_8, ib_add, ib_sub, ib_eql, ib_neq, ib_lss, ib_leq, ib_gtr, ib_geq, shl8, shl16, shl24, shl32, shl40, shl48, shl56, gl2, gl3]
         first | done | omega
       | true =>
        have hb16 : (16 : Int) ≤ r2.length := by omega
        have hd16 := map_drop r2 16
        obtain ⟨r3, er3⟩ : ∃ r3, r2.drop 16 = r3 := ⟨_, rfl⟩
        have ok3 : BytesOK r3 := by rw [← er3]; exact ok2.drop 16
        have v3 : validB r3 = validB zs := by rw [← er3, validB_skip 16 r2 (by omega) (low2 ok2 (by omega) t2), v2]
        have b3 : r3.length + 16 = r2.length := by rw [← er3, List.length_drop]; omega
        rw [er3] at hd16
        have OK3 := Hd.mk ok3; have V3 := Hd.mk v3; have B3 := Hd.mk (show r3.length < rs.length by omega)
        clear er1 er2 er3 ok1 ok2 ok3 v1 v2 v3 b1 b2 b3 ok0 v0 hpos e0 hok hv
        refine Qu ?_
        clear hd1 hd8 hd28 hd16 hc1 hc2 hc2b t1 t2 q8 q16 hb1 hb8 hb28 hb16 l1N l2N
        refine loopH (IV zs r3.length) (fun st => slotL st 0) ?_ ?_
        ·refine ⟨r3, ?_, OK3, Nat.le_refl _, V3, ?_, ?_⟩
         all_goals simp only [*, AVB, ↓reduceIte, Nat.reduceEqDiff, Nat.reduceLT, Nat.reduceLeDiff, reduceCtorEq, Nat.reduceBEq, String.reduceBEq, Nat.reduceAdd, Nat.reduceSub, Nat.reduceMul, Int.reduceLE, Int.reduceLT, Int.reduceToNat, Int.reduceBEq, Int.reduceBNe, List.zipWith, ty124, ty126, ty127, fap0, fap1, dp126, ia124, ia127, sl81m, cv53, cv512, cv5129, cv12912, zr126, szU8, takeM, and_w, or_w, and_8, ib_add, ib_sub, ib_eql, ib_neq, ib_lss, ib_leq, ib_gtr, ib_geq, shl8, shl16, shl24, shl32, shl40, shl48, shl56, gl2, gl3]
        ·rintro st' K' ⟨ps, h0', OKF, BP, VF, h2', hr2'⟩ hn' hx' hr'
         clear h2 hr2
         have lPN : (ps.map (D.int .u8)).length = ps.length := List.length_map ..
         have BF : Hd (ps.length ≤ rs.length) := by
          have h1 : ps.length ≤ r3.length := BP
          have h2 : r3.length < rs.length := B3
          exact Nat.le_trans h1 (Nat.le_of_lt h2)
         have BL : Hd (ps.length < rs.length) := by
          have h1 : ps.length ≤ r3.length := BP
          have h2 : r3.length < rs.length := B3
          exact Nat.lt_of_le_of_lt h1 h2
         by_cases q32 : (32 : Int) < ps.length
         ·have okp : BytesOK ps := OKF
          have vp : validB ps = validB zs := VF
          have k1 : (8 : Int) ≤ ps.length := by omega
          have k2 : (16 : Int) ≤ ps.length := by omega
          have k3 : (24 : Int) ≤ ps.length := by omega
          have k4 : (32 : Int) ≤ ps.length := by omega
          have hd8 := map_drop ps 8
          have hd16 := map_drop ps 16
          have hd24 := map_drop ps 24
          have hd32 := map_drop ps 32
          have c0 := word_L (chk := chk) ps okp (by omega)
          have c1 := word_L (chk := chk) (ps.drop 8) (okp.drop 8) (by rw [List.length_drop]; omega)
          have c2 := word_L (chk := chk) (ps.drop 16) (okp.drop 16) (by rw [List.length_drop]; omega)
          have c3 := word_L (chk := chk) (ps.drop 24) (okp.drop 24) (by rw [List.length_drop]; omega)
          cases t4 : (bits .and .u64 (bits .or .u64 (bits .or .u64 (wordL ps : Nat) (wordL (ps.drop 8) : Nat)) (bits .or .u64 (wordL (ps.drop 16) : Nat) (wordL (ps.drop 24) : Nat))) 9259542123273814144 == 0) with
          | false =>
           clear okp vp
           refine Qu ?_
           refine hx' _ _ ?_
           refine Gu ?_
           refine hn _ ⟨ps, ?_, OKF, ?_, VF, ?_, ?_⟩ ?_
           ·exact L
           ·exact Nat.le_trans (show (ps).length ≤ rs.length from BF) (show rs.length ≤ zs.length from hle)
           ·exact L
           ·exact L
           ·have : (ps).length < rs.length := BL
            simp only [slotL, *, AVB, ↓reduceIte, Nat.reduceEqDiff, Nat.reduceLT, Nat.reduceLeDiff, reduceCtorEq, Nat.reduceBEq, String.reduceBEq, Nat.reduceAdd, Nat.reduceSub, Nat.reduceMul, Int.reduceLE, Int.reduceLT, Int.reduceToNat, Int.reduceBEq, Int.reduceBNe, List.zipWith, ty124, ty126, ty127, fap0, fap1, dp126, ia124, ia127, sl81m, cv53, cv512, cv5129, cv12912, zr126, szU8, takeM, and_w, or_w, and_8, ib_add, ib_sub, ib_eql, ib_neq, ib_lss, ib_leq, ib_gtr, ib_geq, shl8, shl16, shl24, shl32, shl40, shl48, shl56, gl2, gl3]
            first | done | omega
          | true =>
           have N1 := Hd.mk (show BytesOK (ps.drop 32) from okp.drop 32)
           have N2 := Hd.mk (show (ps.drop 32).length ≤ r3.length by have h1 : ps.length ≤ r3.length := BP; rw [List.length_drop]; omega)
           have N3 := Hd.mk (show validB (ps.drop 32) = validB zs by rw [validB_skip 32 ps (by omega) (low4 okp (by omega) t4), vp])
           have N4 := Hd.mk (show (ps.drop 32).length < ps.length by rw [List.length_drop]; omega)
           have N5 : ((ps.drop 32).map (D.int .u8)).length = (ps.drop 32).length := List.length_map ..
           clear okp vp
           refine Qu ?_
           refine hn' _ ⟨ps.drop 32, L, N1, N2, N3, L, L⟩ ?_
           ·have : (ps.drop 32).length < ps.length := N4
            simp only [slotL, *, AVB, ↓reduceIte, Nat.reduceEqDiff, Nat.reduceLT, Nat.reduceLeDiff, reduceCtorEq, Nat.reduceBEq, String.reduceBEq, Nat.reduceAdd, Nat.reduceSub, Nat.reduceMul, Int.reduceLE, Int.reduceLT, Int.reduceToNat, Int.reduceBEq, Int.reduceBNe, List.zipWith, ty124, ty126, ty127, fap0, fap1, dp126, ia124, ia127, sl81m, cv53, cv512, cv5129, cv12912, zr126, szU8, takeM, and_w, or_w, and_8, ib_add, ib_sub, ib_eql, ib_neq, ib_lss, ib_leq, ib_gtr, ib_geq, shl8, shl16, shl24, shl32, shl40, shl48, shl56, gl2, gl3]
         ·refine Qu ?_
          refine hx' _ _ ?_
          refine Gu ?_
          refine hn _ ⟨ps, ?_, OKF, ?_, VF, ?_, ?_⟩ ?_
          ·exact L
          ·exact Nat.le_trans (show (ps).length ≤ rs.length from BF) (show rs.length ≤ zs.length from hle)
          ·exact L
          ·exact L
          ·have : (ps).length < rs.length := BL
           simp only [slotL, *, AVB, ↓reduceIte, Nat.reduceEqDiff, Nat.reduceLT, Nat.reduceLeDiff, reduceCtorEq, Nat.reduceBEq, String.reduceBEq, Nat.reduceAdd, Nat.reduceSub, Nat.reduceMul, Int.reduceLE, Int.reduceLT, Int.reduceToNat, Int.reduceBEq, Int.reduceBNe, List.zipWith, ty124, ty126, ty127, fap0, fap1, dp126, ia124, ia127, sl81m, cv53, cv512, cv5129, cv12912, zr126, szU8, takeM, and_w, or_w, and_8, ib_add, ib_sub, ib_eql, ib_neq, ib_lss, ib_leq, ib_gtr, ib_geq, shl8, shl16, shl24, shl32, shl40, shl48, shl56, gl2, gl3]
           first | done | omega
      ·have OKF := Hd.mk ok2; have VF := Hd.mk v2; have BF := Hd.mk (show r2.length ≤ rs.length by omega); have BL := Hd.mk (show r2.length < rs.length by omega)
       clear er1 er2 ok1 ok2 v1 v2 b1 b2 ok0 v0 hpos e0 hok hv
       refine Qu ?_
       refine hn _ ⟨r2, ?_, OKF, ?_, VF, ?_, ?_⟩ ?_
       ·exact L
       ·exact Nat.le_trans (show (r2).length ≤ rs.length from BF) (show rs.length ≤ zs.length from hle)
       ·exact L
       ·exact L
       ·have : (r2).length < rs.length := BL
        simp only [slotL, *, AVB, ↓reduceIte, Nat.reduceEqDiff, Nat.reduceLT, Nat.reduceLeDiff, reduceCtorEq, Nat.reduceBEq, String.reduceBEq, Nat.reduceAdd, Nat.reduceSub, Nat.reduceMul, Int.reduceLE, Int.reduceLT, Int.reduceToNat, Int.reduceBEq, Int.reduceBNe, List.zipWith, ty124, ty126, ty127, fap0, fap1, dp126, ia124, ia127, sl81m, cv53, cv512, cv5129, cv12912, zr126, szU8, takeM, and_w, or_w, and_8, ib_add, ib_sub, ib_eql, ib_neq, ib_lss, ib_leq, ib_gtr, ib_geq, shl8, shl16, shl24, shl32, shl40, shl48, shl56, gl2, gl3]
        first | done | omega
    ·have OKF := Hd.mk ok1; have VF := Hd.mk v1; have BF := Hd.mk (show r1.length ≤ rs.length by omega); have BL := Hd.mk (show r1.length < rs.length by omega)
     clear er1 ok1 v1 b1 ok0 v0 hpos e0 hok hv
     refine Gu ?_
     refine hn _ ⟨r1, ?_, OKF, ?_, VF, ?_, ?_⟩ ?_
     ·exact L
     ·exact Nat.le_trans (show (r1).length ≤ rs.length from BF) (show rs.length ≤ zs.length from hle)
     ·exact L
     ·exact L
     ·have : (r1).length < rs.length := BL
      simp only [slotL, *, AVB, ↓reduceIte, Nat.reduceEqDiff, Nat.reduceLT, Nat.reduceLeDiff, reduceCtorEq, Nat.reduceBEq, String.reduceBEq, Nat.reduceAdd, Nat.reduceSub, Nat.reduceMul, Int.reduceLE, Int.reduceLT, Int.reduceToNat, Int.reduceBEq, Int.reduceBNe, List.zipWith, ty124, ty126, ty127, fap0, fap1, dp126, ia124, ia127, sl81m, cv53, cv512, cv5129, cv12912, zr126, szU8, takeM, and_w, or_w, and_8, ib_add, ib_sub, ib_eql, ib_neq, ib_lss, ib_leq, ib_gtr, ib_geq, shl8, shl16, shl24, shl32, shl40, shl48, shl56, gl2, gl3]
      first | done | omega
   ·obtain ⟨F, q, lo, hi, s, hf, hand, hshr, hq, hacc, hcase⟩ := cls x0 (by omega) n0
    have hq0 : (q : Int) < 16 := by omega
    have W1 := wi1; have W2' := wi2; have W3 := wi3; have W4 := wi4
    have hin : 0 ≤ x0 ∧ x0 < 256 := ⟨m0, n0⟩
    rcases hcase with ⟨rfl, c⟩ | ⟨rfl, c1, c2, rfl, rfl⟩ | ⟨rfl, c1, c2, el, eh⟩ | ⟨rfl, c1, c2, el, eh⟩
    ·have T : validB zs = false := by rw [← v0]; exact v0_bad hpos (by rw [e0]; omega) (by rw [e0]; exact c)
     clear ok0 v0 hpos e0 hok hv c hin
     refine Gu ?_
     exact hr _ Wu
    ·by_cases hl2 : rs.length < 2
     ·have ll : (rs.length : Int) < 2 := by omega
      have T : validB zs = false := by rw [← v0]; exact v2_bad hpos (by rw [e0]; omega) (by rw [e0]; omega) (.inl hl2)
      clear ok0 v0 hpos e0 hok hv c1 c2 hin hl2
      refine Qu ?_
      exact hr _ Wu
     ·have ll : ¬ (rs.length : Int) < 2 := by omega
      have i1 : (1 : Int) < rs.length := by omega
      obtain ⟨x1, e1, m1, n1, g1⟩ := BytesOK.get ok0 (show 1 < rs.length by omega)
      by_cases a1 : x1 < 128
      ·have T : validB zs = false := by rw [← v0]; exact v2_bad hpos (by rw [e0]; omega) (by rw [e0]; omega) (.inr (by rw [e1]; unfold C1; omega))
       clear ok0 v0 hpos e0 e1 hok hv c1 c2 hin hl2
       refine Qu ?_
       exact hr _ Wu
      ·have ua1 := Hd.mk a1
       by_cases a2 : 191 < x1
       ·have T : validB zs = false := by rw [← v0]; exact v2_bad hpos (by rw [e0]; omega) (by rw [e0]; omega) (.inr (by rw [e1]; unfold C1; omega))
        clear ok0 v0 hpos e0 e1 hok hv c1 c2 hin hl2
        refine Qu ?_
        exact hr _ Wu
       ·have ua2 := Hd.mk a2
        have hb : (2 : Int) ≤ rs.length := by omega
        have hd := map_drop rs 2
        have OKF := Hd.mk (show BytesOK (rs.drop 2) from ok0.drop 2)
        have VF := Hd.mk (show validB (rs.drop 2) = validB zs by rw [v2_ok (by omega) (by rw [e0, e1]; unfold W2; omega), v0])
        have BF := Hd.mk (show (rs.drop 2).length ≤ rs.length by rw [List.length_drop]; omega)
        have BL := Hd.mk (show (rs.drop 2).length < rs.length by rw [List.length_drop]; omega)
        have lD : ((rs.drop 2).map (D.int .u8)).length = (rs.drop 2).length := List.length_map ..
        clear ok0 v0 hpos e0 e1 hok hv c1 c2 hin hl2
        refine Qu ?_
        refine hn _ ⟨rs.drop 2, ?_, OKF, ?_, VF, ?_, ?_⟩ ?_
        ·exact L
        ·exact Nat.le_trans (show (rs.drop 2).length ≤ rs.length from BF) (show rs.length ≤ zs.length from hle)
        ·exact L
        ·exact L
        ·have : (rs.drop 2).length < rs.length := BL
         simp only [slotL, *, AVB, ↓reduceIte, Nat.reduceEqDiff, Nat.reduceLT, Nat.reduceLeDiff, reduceCtorEq, Nat.reduceBEq, String.reduceBEq, Nat.reduceAdd, Nat.reduceSub, Nat.reduceMul, Int.reduceLE, Int.reduceLT, Int.reduceToNat, Int.reduceBEq, Int.reduceBNe, List.zipWith, ty124, ty126, ty127, fap0, fap1, dp126, ia124, ia127, sl81m, cv53, cv512, cv5129, cv12912, zr126, szU8, takeM, and_w, or_w, and_8, ib_add, ib_sub, ib_eql, ib_neq, ib_lss, ib_leq, ib_gtr, ib_geq, shl8, shl16, shl24, shl32, shl40, shl48, shl56, gl2, gl3]
         first | done | omega
    ·by_cases hl3 : rs.length < 3
     ·have ll : (rs.length : Int) < 3 := by omega
      have T : validB zs = false := by rw [← v0]; exact v3_bad hpos (by rw [e0]; omega) (by rw [e0]; omega) (.inl hl3)
      clear ok0 v0 hpos e0 hok hv c1 c2 hin hl3 el eh
      refine Qu ?_
      exact hr _ Wu
     ·have ll : ¬ (rs.length : Int) < 3 := by omega
      have i1 : (1 : Int) < rs.length := by omega
      obtain ⟨x1, e1, m1, n1, g1⟩ := BytesOK.get ok0 (show 1 < rs.length by omega)
      have i2 : (2 : Int) < rs.length := by omega
      obtain ⟨x2, e2, m2, n2, g2⟩ := BytesOK.get ok0 (show 2 < rs.length by omega)
      by_cases a1 : x1 < lo
      ·have T : validB zs = false := by rw [← v0]; exact v3_bad hpos (by rw [e0]; omega) (by rw [e0]; omega) (.inr (.inl (by rw [e0, e1, ← el]; exact a1)))
       clear ok0 v0 hpos e0 e1 e2 hok hv c1 c2 hin hl3 el eh
       refine Qu ?_
       exact hr _ Wu
      ·have ua1 := Hd.mk a1
       by_cases a2 : hi < x1
       ·have T : validB zs = false := by rw [← v0]; exact v3_bad hpos (by rw [e0]; omega) (by rw [e0]; omega) (.inr (.inr (.inl (by rw [e0, e1, ← eh]; exact a2))))
        clear ok0 v0 hpos e0 e1 e2 hok hv c1 c2 hin hl3 el eh
        refine Qu ?_
        exact hr _ Wu
       ·have ua2 := Hd.mk a2
        by_cases a3 : x2 < 128
        ·have T : validB zs = false := by rw [← v0]; exact v3_bad hpos (by rw [e0]; omega) (by rw [e0]; omega) (.inr (.inr (.inr (by rw [e2]; unfold C1; omega))))
         clear ok0 v0 hpos e0 e1 e2 hok hv c1 c2 hin hl3 el eh
         refine Qu ?_
         exact hr _ Wu
        ·have ua3 := Hd.mk a3
         by_cases a4 : 191 < x2
         ·have T : validB zs = false := by rw [← v0]; exact v3_bad hpos (by rw [e0]; omega) (by rw [e0]; omega) (.inr (.inr (.inr (by rw [e2]; unfold C1; omega))))
          clear ok0 v0 hpos e0 e1 e2 hok hv c1 c2 hin hl3 el eh
          refine Qu ?_
          exact hr _ Wu
         ·have ua4 := Hd.mk a4
          have hb : (3 : Int) ≤ rs.length := by omega
          have hd := map_drop rs 3
          have OKF := Hd.mk (show BytesOK (rs.drop 3) from ok0.drop 3)
          have VF := Hd.mk (show validB (rs.drop 3) = validB zs by rw [v3_ok (by omega) (by rw [e0]; omega) (by rw [e0]; omega) (by rw [e0, e1, ← el]; omega) (by rw [e0, e1, ← eh]; omega) (by rw [e2]; unfold C1; omega), v0])
          have BF := Hd.mk (show (rs.drop 3).length ≤ rs.length by rw [List.length_drop]; omega)
          have BL := Hd.mk (show (rs.drop 3).length < rs.length by rw [List.length_drop]; omega)
          have lD : ((rs.drop 3).map (D.int .u8)).length = (rs.drop 3).length := List.length_map ..
          clear ok0 v0 hpos e0 e1 e2 hok hv c1 c2 hin hl3 el eh
          refine Qu ?_
          refine hn _ ⟨rs.drop 3, ?_, OKF, ?_, VF, ?_, ?_⟩ ?_
          ·exact L
          ·exact Nat.le_trans (show (rs.drop 3).length ≤ rs.length from BF) (show rs.length ≤ zs.length from hle)
          ·exact L
          ·exact L
          ·have : (rs.drop 3).length < rs.length := BL
           simp only [slotL, *, AVB, ↓reduceIte, Nat.reduceEqDiff, Nat.reduceLT, Nat.reduceLeDiff, reduceCtorEq, Nat.reduceBEq, String.reduceBEq, Nat.reduceAdd, Nat.reduceSub, Nat.reduceMul, Int.reduceLE, Int.reduceLT, Int.reduceToNat, Int.reduceBEq, Int.reduceBNe, List.zipWith, ty124, ty126, ty127, fap0, fap1, dp126, ia124, ia127, sl81m, cv53, cv512, cv5129, cv12912, zr126, szU8, takeM, and_w, or_w, and_8, ib_add, ib_sub, ib_eql, ib_neq, ib_lss, ib_leq, ib_gtr, ib_geq, shl8, shl16, shl24, shl32, shl40, shl48, shl56, gl2, gl3]
           first | done | omega
    ·by_cases hl4 : rs.length < 4
     ·have ll : (rs.length : Int) < 4 := by omega
      have T : validB zs = false := by rw [← v0]; exact v4_bad hpos (by rw [e0]; omega) (by rw [e0]; omega) (.inl hl4)
      clear ok0 v0 hpos e0 hok hv c1 c2 hin hl4 el eh
      refine Qu ?_
      exact hr _ Wu
     ·have ll : ¬ (rs.length : Int) < 4 := by omega
      have i1 : (1 : Int) < rs.length := by omega
      obtain ⟨x1, e1, m1, n1, g1⟩ := BytesOK.get ok0 (show 1 < rs.length by omega)
      have i2 : (2 : Int) < rs.length := by omega
      obtain ⟨x2, e2, m2, n2, g2⟩ := BytesOK.get ok0 (show 2 < rs.length by omega)
      have i3 : (3 : Int) < rs.length := by omega
      obtain ⟨x3, e3, m3, n3, g3⟩ := BytesOK.get ok0 (show 3 < rs.length by omega)
      by_cases a1 : x1 < lo
      ·have T : validB zs = false := by rw [← v0]; exact v4_bad hpos (by rw [e0]; omega) (by rw [e0]; omega) (.inr (.inl (by rw [e0, e1, ← el]; exact a1)))
       clear ok0 v0 hpos e0 e1 e2 e3 hok hv c1 c2 hin hl4 el eh
       refine Qu ?_
       exact hr _ Wu
      ·have ua1 := Hd.mk a1
       by_cases a2 : hi < x1
       ·have T : validB zs = false := by rw [← v0]; exact v4_bad hpos (by rw [e0]; omega) (by rw [e0]; omega) (.inr (.inr (.inl (by rw [e0, e1, ← eh]; exact a2))))
        clear ok0 v0 hpos e0 e1 e2 e3 hok hv c1 c2 hin hl4 el eh
        refine Qu ?_
        exact hr _ Wu
       ·have ua2 := Hd.mk a2
        by_cases a3 : x2 < 128
        ·have T : validB zs = false := by rw [← v0]; exact v4_bad hpos (by rw [e0]; omega) (by rw [e0]; omega) (.inr (.inr (.inr (.inl (by rw [e2]; unfold C1; omega)))))
         clear ok0 v0 hpos e0 e1 e2 e3 hok hv c1 c2 hin hl4 el eh
         refine Qu ?_
         exact hr _ Wu
        ·have ua3 := Hd.mk a3
         by_cases a4 : 191 < x2
         ·have T : validB zs = false := by rw [← v0]; exact v4_bad hpos (by rw [e0]; omega) (by rw [e0]; omega) (.inr (.inr (.inr (.inl (by rw [e2]; unfold C1; omega)))))
          clear ok0 v0 hpos e0 e1 e2 e3 hok hv c1 c2 hin hl4 el eh
          refine Qu ?_
          exact hr _ Wu
         ·have ua4 := Hd.mk a4
          by_cases a5 : x3 < 128
          ·have T : validB zs = false := by rw [← v0]; exact v4_bad hpos (by rw [e0]; omega) (by rw [e0]; omega) (.inr (.inr (.inr (.inr (by rw [e3]; unfold C1; omega)))))
           clear ok0 v0 hpos e0 e1 e2 e3 hok hv c1 c2 hin hl4 el eh
           refine Qu ?_
           exact hr _ Wu
          ·have ua5 := Hd.mk a5
           by_cases a6 : 191 < x3
           ·have T : validB zs = false := by rw [← v0]; exact v4_bad hpos (by rw [e0]; omega) (by rw [e0]; omega) (.inr (.inr (.inr (.inr (by rw [e3]; unfold C1; omega)))))
            clear ok0 v0 hpos e0 e1 e2 e3 hok hv c1 c2 hin hl4 el eh
            refine Qu ?_
            exact hr _ Wu
           ·have ua6 := Hd.mk a6
            have hb : (4 : Int) ≤ rs.length := by omega
            have hd := map_drop rs 4
            have OKF := Hd.mk (show BytesOK (rs.drop 4) from ok0.drop 4)
            have VF := Hd.mk (show validB (rs.drop 4) = validB zs by rw [v4_ok (by omega) (by rw [e0]; omega) (by rw [e0]; omega) (by rw [e0, e1, ← el]; omega) (by rw [e0, e1, ← eh]; omega) (by rw [e2]; unfold C1; omega) (by rw [e3]; unfold C1; omega), v0])
            have BF := Hd.mk (show (rs.drop 4).length ≤ rs.length by rw [List.length_drop]; omega)
            have BL := Hd.mk (show (rs.drop 4).length < rs.length by rw [List.length_drop]; omega)
            have lD : ((rs.drop 4).map (D.int .u8)).length = (rs.drop 4).length := List.length_map ..
            clear ok0 v0 hpos e0 e1 e2 e3 hok hv c1 c2 hin hl4 el eh
            refine Qu ?_
            refine hn _ ⟨rs.drop 4, ?_, OKF, ?_, VF, ?_, ?_⟩ ?_
            ·exact L
            ·exact Nat.le_trans (show (rs.drop 4).length ≤ rs.length from BF) (show rs.length ≤ zs.length from hle)
            ·exact L
            ·exact L
            ·have : (rs.drop 4).length < rs.length := BL
             simp only [slotL, *, AVB, ↓reduceIte, Nat.reduceEqDiff, Nat.reduceLT, Nat.reduceLeDiff, reduceCtorEq, Nat.reduceBEq, String.reduceBEq, Nat.reduceAdd, Nat.reduceSub, Nat.reduceMul, Int.reduceLE, Int.reduceLT, Int.reduceToNat, Int.reduceBEq, Int.reduceBNe, List.zipWith, ty124, ty126, ty127, fap0, fap1, dp126, ia124, ia127, sl81m, cv53, cv512, cv5129, cv12912, zr126, szU8, takeM, and_w, or_w, and_8, ib_add, ib_sub, ib_eql, ib_neq, ib_lss, ib_leq, ib_gtr, ib_geq, shl8, shl16, shl24, shl32, shl40, shl48, shl56, gl2, gl3]
             first | done | omega
  ·have hg : ¬ (0 : Int) < rs.length := by omega
   have hv' : validB zs = true := by
    have h1 : validB rs = validB zs := hv
    rw [← h1, List.length_eq_zero_iff.1 (by omega : rs.length = 0)]
    rfl
   clear hpos hle hok hv
   refine Gu ?_
   exact hx _ _ Wu
end Go.Av
namespace Go.Av
open Go.Proofs Go.Proofs.YtcogfddcdpgpkaaGreatDoor
variable [Rk] {chk : List D → Bool}
set_option maxHeartbeats 4000000 in
theorem right_L (zs : List Int) (hz : BytesOK zs) (hl : zs.length < 1000000000) : callL Tryz.prog (ext11b chk) 127 [.list (zs.map (D.int .u8))] [] = some (.bool (noNul zs && validB zs), [.no], []) := by
 have hV := valid_L (chk := chk) zs hz hl
 have lN : (zs.map (D.int .u8)).length = zs.length := List.length_map ..
 have hz' := Hd.mk hz
 clear hz
 refine cK 16 2 Tryz.func127 ?_
 refine Gu ?_
 refine loopH (fun st => ∃ i : Nat, i ≤ zs.length ∧ st.slot 7 = .int .i64 i ∧ st.slot 6 = .int .i64 zs.length ∧ st.slot 5 = .list (zs.map (D.int .u8)) ∧ st.slot 0 = .list (zs.map (D.int .u8)) ∧ st.slot 2 = .bool false ∧ st.room 2 = [] ∧ Hd (noNul (zs.drop i) = noNul zs)) (fun st => zs.length - slotI st 7) ?_ ?_
 ·exact ⟨0, Nat.zero_le _, Iu, Iu, Iu, Iu, Iu, Iu, rfl⟩
 ·rintro st K ⟨i, hi, h7, h6, h5, h0, h2, hr2, hnn⟩ hn hx hr
  by_cases hlt : i < zs.length
  ·have ok0 : BytesOK zs := hz'
   obtain ⟨x, e0, m0, n0, g0⟩ := BytesOK.get ok0 hlt
   have hlt1 : (i : Int) < zs.length := by omega
   have hw1 : IntKind.i64.wrap ((i : Int) + 1) = ((i + 1 : Nat) : Int) := by rw [wrap64 _ (by omega) (by omega)]; omega
   have hdr : zs.drop i = x :: zs.drop (i + 1) := by
    rw [List.drop_eq_getElem_cons hlt]
    congr 1
    rw [← e0]
    simp [List.getD, List.getElem?_eq_getElem hlt]
   have hnn' : noNul (zs.drop i) = noNul zs := hnn
   rw [hdr, noNul_cons] at hnn'
   clear ok0 e0 hdr hnn
   by_cases hx0 : x = 0
   ·have T : noNul zs = false := by rw [← hnn', hx0]; rfl
    clear hnn' m0 n0
    subst hx0
    refine Gu ?_
    exact hr _ Wu
   ·have hx1 : (x == 0) = false := by simpa using hx0
    have T := Hd.mk (show noNul (zs.drop (i + 1)) = noNul zs by rw [← hnn', hx1]; rfl)
    clear hnn' m0 n0 hx0
    refine Gu ?_
    exact hn _ ⟨i + 1, hlt, L, L, L, L, L, L, T⟩ Zu
  ·have hge : ¬ (i : Int) < zs.length := by omega
   have T : noNul zs = true := by
    have h1 : noNul (zs.drop i) = noNul zs := hnn
    rw [← h1, List.drop_eq_nil_of_le (by omega)]
    rfl
   clear hnn
   refine Gu ?_
   exact hx _ _ Wu
end Go.Av
namespace Go.Av
open Go.Proofs
variable [Rk] {chk : List D → Bool}
def atG (a : At) : Bool := decide ((200 : Int) < a.nm.length) || (decide ((200 : Int) < a.sp.length) || decide ((200 : Int) < a.vl.length))
def ndG0 (n : Nd) : Bool := decide ((20 : Int) < n.at_.length) || (decide ((20 : Int) < n.st.length) || (decide ((200 : Int) < n.nm.length) || (decide ((200 : Int) < n.sp.length) || decide ((200 : Int) < n.tx.length))))
def ndG (n : Nd) : Bool := ndG0 n || n.at_.any atG
def greatF (ns : List Nd) (most : Nat) : Bool := decide ((most : Int) < ns.length) || ns.any ndG
theorem any_drop {α : Type} {xs : List α} {i : Nat} {x : α} (f : α → Bool) (hx : xs[i]? = some x) : (xs.drop i).any f = (f x || (xs.drop (i + 1)).any f) := by
 have h1 : i < xs.length := (List.getElem?_eq_some_iff.1 hx).1
 have e1 : xs[i] = x := (List.getElem?_eq_some_iff.1 hx).2
 rw [List.drop_eq_getElem_cons h1, e1, List.any_cons]
theorem any_end {α : Type} {xs : List α} {i : Nat} (f : α → Bool) (h : xs.length ≤ i) : (xs.drop i).any f = false := by
 rw [List.drop_eq_nil_of_le h]
 rfl
set_option maxHeartbeats 16000000 in
theorem great_L (ns : List Nd) (most : Nat) (hm : most ≤ 1000) : callL Tryz.prog (ext11b chk) 27 [.list (ns.map Nd.d), .int .i64 most] [] = some (.bool (greatF ns most), [.no], []) := by
 have lN := lenM ns Nd.d
 unfold greatF
 refine cK 85 4 Tryz.func27 ?_
 by_cases hg : (most : Int) < ns.length
 ·rw [decide_eq_true hg, Bool.true_or]
  clear hm
  exact W
 ·rw [decide_eq_false hg, Bool.false_or]
  have hl : ns.length ≤ 1000 := by omega
  have HL := Hd.mk hl
  clear hl hm
  obtain ⟨R, hR⟩ : ∃ R, Hd (R = ns.any ndG) := ⟨_, rfl⟩
  rw [← (show R = ns.any ndG from hR)]
  refine G ?_
  clear hg
  refine loopH (fun st => ∃ i : Nat, i ≤ ns.length ∧ st.slot 5 = .int .i64 i ∧ st.slot 0 = .list (ns.map Nd.d) ∧ st.slot 4 = .bool false ∧ st.room 4 = [] ∧ Hd (R = (ns.drop i).any ndG)) (fun st => ns.length - slotI st 5) ?_ ?_
  ·exact ⟨0, Nat.zero_le _, I, I, I, I, hR⟩
  ·rintro st K ⟨i, hi, g5, g0, g4, gr, hO⟩ hn hx hr
   have hl : ns.length ≤ 1000 := HL
   by_cases h : i < ns.length
   ·have g9 : (i : Int) < ns.length := by omega
    have hw := wrapS i (by omega)
    obtain ⟨x, hx1⟩ := some_at h
    have hO' : R = (ns.drop i).any ndG := hO
    rw [any_drop ndG hx1] at hO'
    have ha := getD_map (f := Nd.d) hx1
    obtain ⟨p, k, sp, nm, a, s, tx⟩ := x
    have ha2 : (ns.map Nd.d).getD i .bad = .agg [.int .i64 p, .int .i64 k, .str sp, .str nm, .list (a.map At.d), .list (s.map .str), .str tx] := ha
    clear ha hx1
    have lA := lenM a At.d
    have lS := lenM s D.str
    generalize s.map D.str = S at *
    simp only [ndG, ndG0] at hO'
    have HI := Hd.mk h
    clear hl h hO hx
    by_cases c1 : (20 : Int) < a.length
    ·rw [decide_eq_true c1] at hO'
     simp only [Bool.true_or, Bool.or_true, Bool.false_or] at hO'
     subst hO'
     clear hn hR HI
     refine G ?_
     exact hr _ W
    ·rw [decide_eq_false c1] at hO'
     by_cases c2 : (20 : Int) < s.length
     ·rw [decide_eq_true c2] at hO'
      simp only [Bool.true_or, Bool.or_true, Bool.false_or] at hO'
      subst hO'
      clear hn hR HI
      refine G ?_
      exact hr _ W
     ·rw [decide_eq_false c2] at hO'
      by_cases c3 : (200 : Int) < nm.length
      ·rw [decide_eq_true c3] at hO'
       simp only [Bool.true_or, Bool.or_true, Bool.false_or] at hO'
       subst hO'
       clear hn hR HI
       refine G ?_
       exact hr _ W
      ·rw [decide_eq_false c3] at hO'
       by_cases c4 : (200 : Int) < sp.length
       ·rw [decide_eq_true c4] at hO'
        simp only [Bool.true_or, Bool.or_true, Bool.false_or] at hO'
        subst hO'
        clear hn hR HI
        refine G ?_
        exact hr _ W
       ·rw [decide_eq_false c4] at hO'
        by_cases c5 : (200 : Int) < tx.length
        ·rw [decide_eq_true c5] at hO'
         simp only [Bool.true_or, Bool.or_true, Bool.false_or] at hO'
         subst hO'
         clear hn hR HI
         refine G ?_
         exact hr _ W
        ·rw [decide_eq_false c5] at hO'
         simp only [Bool.false_or] at hO'
         have HO := Hd.mk hO'
         have HA := Hd.mk c1
         clear hO'
         refine G ?_
         clear c1 c2 c3 c4 c5 ha2 g9
         refine loopH (fun st' => ∃ j g : Nat, j ≤ a.length ∧ st'.slot 7 = .int .i64 j ∧ st'.slot 5 = .int .i64 i ∧ st'.slot 0 = .list (ns.map Nd.d) ∧ st'.slot 4 = .bool false ∧ st'.room 4 = [] ∧ st'.slot 6 = .ptr 6 g 0 ∧ st'.box 6 = some ⟨g, [.int .i64 p, .int .i64 k, .str sp, .str nm, .list (a.map At.d), .list S, .str tx], [.no, .no, .no, .no, .no, .no, .no]⟩ ∧ Hd (R = ((a.drop j).any atG || (ns.drop (i + 1)).any ndG))) (fun st' => a.length - slotI st' 7) ?_ ?_
         ·exact ⟨0, st.ctr 6, Nat.zero_le _, I, I, I, I, I, I, I, HO⟩
         ·rintro st' K' ⟨j, g, hj, e7, e5, e0, e4, er, e6, eb, hO2⟩ hn2 hx2 hr2
          have hla : ¬ (20 : Int) < a.length := HA
          have G5 := Hd.mk g5
          clear g5 g0 g4 gr
          by_cases h2 : j < a.length
          ·have g9 : (j : Int) < a.length := by omega
           have hw2 := wrapS j (by omega)
           obtain ⟨y, hy1⟩ := some_at h2
           have hO3 : R = ((a.drop j).any atG || (ns.drop (i + 1)).any ndG) := hO2
           rw [any_drop atG hy1] at hO3
           have hb := getD_map (f := At.d) hy1
           obtain ⟨a1, a2, a3⟩ := y
           have hb2 : (a.map At.d).getD j .bad = .agg [.str a1, .str a2, .str a3] := hb
           clear hb hy1 hla hO2 HO
           simp only [atG] at hO3
           by_cases d1 : (200 : Int) < a2.length
           ·rw [decide_eq_true d1] at hO3
            simp only [Bool.true_or, Bool.or_true, Bool.false_or] at hO3
            subst hO3
            clear hn2 hx2 hR hn
            refine G ?_
            refine hr2 _ ?_
            exact hr _ W
           ·rw [decide_eq_false d1] at hO3
            by_cases d2 : (200 : Int) < a1.length
            ·rw [decide_eq_true d2] at hO3
             simp only [Bool.true_or, Bool.or_true, Bool.false_or] at hO3
             subst hO3
             clear hn2 hx2 hR hn
             refine G ?_
             refine hr2 _ ?_
             exact hr _ W
            ·rw [decide_eq_false d2] at hO3
             by_cases d3 : (200 : Int) < a3.length
             ·rw [decide_eq_true d3] at hO3
              simp only [Bool.true_or, Bool.or_true, Bool.false_or] at hO3
              subst hO3
              clear hn2 hx2 hR hn
              refine G ?_
              refine hr2 _ ?_
              exact hr _ W
             ·rw [decide_eq_false d3] at hO3
              simp only [Bool.false_or] at hO3
              have HO4 := Hd.mk hO3
              clear hO3 hr2 hx2 hn hr
              refine G ?_
              exact hn2 _ ⟨j + 1, g, h2, L, L, L, L, L, L, L, HO4⟩ Z
          ·have g9 : ¬ (j : Int) < a.length := by omega
           have hO3 : R = ((a.drop j).any atG || (ns.drop (i + 1)).any ndG) := hO2
           rw [any_end atG (by omega), Bool.false_or] at hO3
           have HO4 := Hd.mk hO3
           clear hO3 hO2 hr2 hn2 hr hla
           refine G ?_
           refine hx2 _ _ ?_
           refine G ?_
           have hi2 : i < ns.length := HI
           refine hn _ ⟨i + 1, hi2, L, L, L, L, HO4⟩ ?_
           ·have g5 : st.slot 5 = .int .i64 i := G5
            simp only [slotI, *, AVB, ↓reduceIte, Nat.reduceEqDiff, Nat.reduceLT, Nat.reduceLeDiff, reduceCtorEq, Nat.reduceBEq, String.reduceBEq, Nat.reduceAdd, Nat.reduceSub, Nat.reduceMul, Int.reduceLE, Int.reduceLT, Int.reduceToNat, Int.reduceBEq, Int.reduceBNe, List.zipWith, dIntBin]
            omega
   ·have g9 : ¬ (i : Int) < ns.length := by omega
    have hO' : R = (ns.drop i).any ndG := hO
    rw [any_end ndG (by omega)] at hO'
    subst hO'
    clear hO hn hr hl hR
    refine G ?_
    exact hx _ _ W
end Go.Av
namespace Go.Av
open Go.Proofs
variable [Rk]
theorem callL_ext {P : Program} [Gs] {ext : Call} {f : FuncId} {args : List D} {pbs : List Bx} {r : D × List Room × List Bx} (h : ext f args pbs = some r) : callL P ext f args pbs = some r :=
 aev_callL (N := 1) (by simp only [aev, h])
variable {chk : List D → Bool}
theorem nodes_ok {ns : List Nd} (h : Small ns) : nodesOk (ns.map Nd.d) = true := by
 unfold nodesOk
 simp only [Bool.and_eq_true, List.all_eq_true, decide_eq_true_eq, List.length_map]
 refine ⟨fun e he => ?_, h.1⟩
 obtain ⟨n, hn, rfl⟩ := List.mem_map.1 he
 have h2 := h.2 n hn
 show ((n.at_.map At.d).all (fun e => (dcells e).length == 3) && (n.st.map D.str).all (fun e => (dcells e).length == 1) && decide ((n.at_.map At.d).length ≤ 1000000) && decide ((n.st.map D.str).length ≤ 1000000)) = true
 simp only [Bool.and_eq_true, List.all_eq_true, decide_eq_true_eq, List.length_map]
 refine ⟨⟨⟨?_, ?_⟩, h2.1⟩, h2.2⟩ <;> intro e he <;> obtain ⟨x, _, rfl⟩ := List.mem_map.1 he <;> rfl
end Go.Av
namespace Go.Av
open Go.Proofs
variable [Rk] {chk : List D → Bool}
open Go.Proofs.YtcogfddcdpgpkaaGreatDoor
def bytesI (s : List UInt8) : List Int := s.map fun b => (b.toNat : Int)
def goodB (s : List UInt8) : Bool := rGood (bytesI s)
theorem bytesI_ok (s : List UInt8) : BytesOK (bytesI s) := by
 intro i hi
 have hi' : i < s.length := by simpa [bytesI] using hi
 have : (bytesI s).getD i 0 = (s[i].toNat : Int) := by simp [bytesI, List.getD, hi']
 rw [this]
 have := s[i].toNat_lt
 omega
theorem bytesI_len (s : List UInt8) : (bytesI s).length = s.length := by simp [bytesI]
theorem bytesI_d (s : List UInt8) : (s.map fun b => D.int .u8 (b.toNat : Int)) = (bytesI s).map (D.int .u8) := by simp [bytesI]
theorem byI_of : ∀ (zs : List Int), BytesOK zs → byI (zs.map (D.int .u8)) = some zs
 | [], _ => rfl
 | z :: r, h => by
  have h0 := h 0 (by simp)
  have hr : BytesOK r := fun i hi => by have := h (i + 1) (by simpa using hi); simpa using this
  simp only [List.getD_cons_zero] at h0
  show (if 0 ≤ z ∧ z < 256 then (byI (r.map (D.int .u8))).map (z :: ·) else none) = _
  rw [if_pos h0, byI_of r hr]
  rfl
theorem good_L (s : List UInt8) (hl : s.length ≤ 140737488355328) : callL Tryz.prog (ext11b chk) 95 [.list (s.map fun b => .int .u8 b.toNat)] [] = some (.bool (goodB s), [], []) := by
 refine callL_ext (ext_in ?_)
 rw [bytesI_d]
 show (match byI ((bytesI s).map (D.int .u8)) with | some zs => if zs.length ≤ 140737488355328 then some (D.bool (rGood zs), ([] : List Room), ([] : List Bx)) else none | none => none) = _
 rw [byI_of _ (bytesI_ok s)]
 show (if (bytesI s).length ≤ 140737488355328 then some (D.bool (rGood (bytesI s)), ([] : List Room), ([] : List Bx)) else none) = _
 rw [if_pos (by rw [bytesI_len]; exact hl)]
 rfl
theorem right81_L (s : List UInt8) (hl : s.length ≤ 1000000) : callL Tryz.prog (ext11b chk) 127 [.list (s.map fun b => .int .u8 b.toNat)] [] = some (.bool (goodB s), [.no], []) := by
 have h := right_L (chk := chk) (bytesI s) (bytesI_ok s) (by rw [bytesI_len]; omega)
 rw [← good_valid (bytesI s).length _ (Nat.le_refl _) (bytesI_ok s)] at h
 rw [bytesI_d]
 exact h
theorem dright_L (s : List UInt8) (hl : s.length ≤ 1000000) : callL Tryz.prog (ext11b chk) 96 [.str s] [] = some (.bool (goodB s), [.no], []) := by
 have h := right81_L (chk := chk) s hl
 clear hl
 generalize goodB s = R at *
 exact cW 6 2 Tryz.func96
theorem rright_L (s : List UInt8) (hl : s.length ≤ 140737488355328) : callL Tryz.prog (ext11b chk) 53 [.str s] [] = some (.bool (goodB s), [.no], []) := by
 have h := good_L (chk := chk) s hl
 clear hl
 generalize goodB s = R at *
 exact cW 6 2 Tryz.func53
def idxN {α : Type} (f : α → Bool) : Nat → List α → Int
 | _, [] => -1
 | k, a :: r => if f a = true then (k : Int) else idxN f (k + 1) r
theorem idxN_at {α : Type} {xs : List α} {i : Nat} {x : α} (f : α → Bool) (hx : xs[i]? = some x) : idxN f i (xs.drop i) = if f x = true then (i : Int) else idxN f (i + 1) (xs.drop (i + 1)) := by
 have h1 : i < xs.length := (List.getElem?_eq_some_iff.1 hx).1
 have e1 : xs[i] = x := (List.getElem?_eq_some_iff.1 hx).2
 rw [List.drop_eq_getElem_cons h1, e1, idxN]
theorem idxN_end {α : Type} {xs : List α} {i : Nat} (f : α → Bool) (h : xs.length ≤ i) : idxN f i (xs.drop i) = -1 := by
 rw [List.drop_eq_nil_of_le h]
 rfl
theorem idxN_ge {α : Type} (f : α → Bool) : ∀ (xs : List α) (k : Nat), decide (idxN f k xs ≥ 0) = xs.any f
 | [], _ => rfl
 | a :: r, k => by
  rw [idxN, List.any_cons]
  cases h : f a with
  | true => simp
  | false => simpa using idxN_ge f r (k + 1)
def sameN (sp nm : List UInt8) (a : At) : Bool := a.sp == sp && a.nm == nm
theorem attr1_L (a : At) (sp nm : List UInt8) : callL Tryz.prog (ext11b chk) 161 [.agg [.str a.sp, .str a.nm, .str a.vl], .fix (.agg [.str sp]) 0, .fix (.agg [.str nm]) 0] [] = some (.bool (sameN sp nm a), [.no], []) := by
 unfold sameN
 obtain ⟨a1, a2, a3⟩ := a
 simp only []
 cases h1 : (a1 == sp) with
 | false =>
  exact cW 15 4 Tryz.func161
 | true =>
  cases h2 : (a2 == nm) with
  | false =>
   exact cW 15 4 Tryz.func161
  | true =>
   exact cW 15 4 Tryz.func161
set_option maxHeartbeats 4000000 in
theorem idxf_L (l : List At) (sp nm : List UInt8) (hl : l.length ≤ 1000000) : callL Tryz.prog (ext11b chk) 138 [.list (l.map At.d), .func (.func 161) [] [.fix (.agg [.str sp]) 0, .fix (.agg [.str nm]) 0]] [] = some (.int .i64 (idxN (sameN sp nm) 0 l), [.no], []) := by
 have lN := lenM l At.d
 refine cK 19 4 Tryz.func138 ?_
 have HL := Hd.mk hl
 clear hl
 obtain ⟨R, hR⟩ : ∃ R, Hd (R = idxN (sameN sp nm) 0 l) := ⟨_, rfl⟩
 rw [← (show R = idxN (sameN sp nm) 0 l from hR)]
 refine G ?_
 refine loopH (fun st => ∃ i : Nat, i ≤ l.length ∧ st.slot 8 = .int .i64 i ∧ st.slot 7 = .int .i64 l.length ∧ st.slot 0 = .list (l.map At.d) ∧ st.slot 1 = .func (.func 161) [] [.fix (.agg [.str sp]) 0, .fix (.agg [.str nm]) 0] ∧ st.slot 4 = .int .i64 0 ∧ st.room 4 = [] ∧ Hd (R = idxN (sameN sp nm) i (l.drop i))) (fun st => l.length - slotI st 8) ?_ ?_
 ·exact ⟨0, Nat.zero_le _, I, I, I, I, I, I, hR⟩
 ·rintro st K ⟨i, hi, g0, g1, g2, g3, g4, g5, hO⟩ hn hx hr
  have hl : l.length ≤ 1000000 := HL
  have hO' : R = idxN (sameN sp nm) i (l.drop i) := hO
  by_cases h : i < l.length
  ·have g9 : (i : Int) < l.length := by omega
   have hw := wrapS i (by omega)
   obtain ⟨x, hx1⟩ := some_at h
   rw [idxN_at _ hx1] at hO'
   have ha := getD_map (f := At.d) hx1
   obtain ⟨a1, a2, a3⟩ := x
   have ha2 : (l.map At.d).getD i .bad = .agg [.str a1, .str a2, .str a3] := ha
   clear ha
   have hc : callL Tryz.prog (ext11b chk) 161 [.agg [.str a1, .str a2, .str a3], .fix (.agg [.str sp]) 0, .fix (.agg [.str nm]) 0] [] = some (.bool (sameN sp nm ⟨a1, a2, a3⟩), [.no], []) := attr1_L ⟨a1, a2, a3⟩ sp nm
   cases he : sameN sp nm ⟨a1, a2, a3⟩ with
   | true =>
    rw [he] at hO' hc
    rw [if_pos rfl] at hO'
    subst hO'
    clear hO hn hx hl hx1 hR
    refine G ?_
    exact hr _ W
   | false =>
    rw [he] at hO' hc
    rw [if_neg (by decide)] at hO'
    have HO := Hd.mk hO'
    clear hO hO' hx hr hl hx1
    refine G ?_
    exact hn _ ⟨i + 1, h, L, L, L, L, L, L, HO⟩ Z
  ·have g9 : ¬ (i : Int) < l.length := by omega
   rw [idxN_end _ (by omega)] at hO'
   subst hO'
   clear hO hn hr hl hR
   refine G ?_
   exact hx _ _ W
theorem attr_L (l : List At) (sp nm : List UInt8) (hl : l.length ≤ 1000000) : callL Tryz.prog (ext11b chk) 128 [.list (l.map At.d), .str sp, .str nm] [] = some (.int .i64 (idxN (sameN sp nm) 0 l), [.no], []) := by
 have h := idxf_L (chk := chk) l sp nm hl
 clear hl
 generalize idxN (sameN sp nm) 0 l = R at *
 generalize l.map At.d = L at *
 refine cK 10 6 Tryz.func128 ?_
 repeat' (first|simp only [*, upd, AVB, ↓reduceIte, Nat.reduceEqDiff, Nat.reduceLT, reduceCtorEq, Nat.reduceBEq, Nat.reduceAdd])
set_option maxHeartbeats 4000000 in
theorem index_L (l : List (List UInt8)) (v : List UInt8) (hl : l.length ≤ 1000000) : callL Tryz.prog (ext11b chk) 130 [.list (l.map D.str), .str v] [] = some (.int .i64 (idxN (v == ·) 0 l), [.no], []) := by
 have lN := lenM l D.str
 refine cK 19 4 Tryz.func130 ?_
 have HL := Hd.mk hl
 clear hl
 obtain ⟨R, hR⟩ : ∃ R, Hd (R = idxN (v == ·) 0 l) := ⟨_, rfl⟩
 rw [← (show R = idxN (v == ·) 0 l from hR)]
 refine G ?_
 refine loopH (fun st => ∃ i : Nat, i ≤ l.length ∧ st.slot 8 = .int .i64 i ∧ st.slot 7 = .int .i64 l.length ∧ st.slot 0 = .list (l.map D.str) ∧ st.slot 1 = .str v ∧ st.slot 4 = .int .i64 0 ∧ st.room 4 = [] ∧ Hd (R = idxN (v == ·) i (l.drop i))) (fun st => l.length - slotI st 8) ?_ ?_
 ·exact ⟨0, Nat.zero_le _, I, I, I, I, I, I, hR⟩
 ·rintro st K ⟨i, hi, g0, g1, g2, g3, g4, g5, hO⟩ hn hx hr
  have hl : l.length ≤ 1000000 := HL
  have hO' : R = idxN (v == ·) i (l.drop i) := hO
  by_cases h : i < l.length
  ·have g9 : (i : Int) < l.length := by omega
   have hw := wrapS i (by omega)
   obtain ⟨x, hx1⟩ := some_at h
   rw [idxN_at _ hx1] at hO'
   have ha := getD_map (f := D.str) hx1
   cases he : (v == x) with
   | true =>
    rw [he] at hO'
    rw [if_pos rfl] at hO'
    subst hO'
    clear hO hn hx hl hx1 hR
    refine G ?_
    exact hr _ W
   | false =>
    rw [he] at hO'
    rw [if_neg (by decide)] at hO'
    have HO := Hd.mk hO'
    clear hO hO' hx hr hl hx1
    refine G ?_
    exact hn _ ⟨i + 1, h, L, L, L, L, L, L, HO⟩ Z
  ·have g9 : ¬ (i : Int) < l.length := by omega
   rw [idxN_end _ (by omega)] at hO'
   subst hO'
   clear hO hn hr hl hR
   refine G ?_
   exact hx _ _ W
theorem any_contains (l : List (List UInt8)) (v : List UInt8) : l.any (v == ·) = l.contains v := by
 induction l with
 | nil => rfl
 | cons a r ih => rw [List.any_cons, ih, List.contains_cons]
theorem contains_L (l : List (List UInt8)) (v : List UInt8) (hl : l.length ≤ 1000000) : callL Tryz.prog (ext11b chk) 108 [.list (l.map D.str), .str v] [] = some (.bool (l.contains v), [.no], []) := by
 have h := index_L (chk := chk) l v hl
 rw [← any_contains, ← idxN_ge (v == ·) l 0]
 clear hl
 generalize idxN (v == ·) 0 l = R at *
 generalize l.map D.str = L at *
 exact cW 9 4 Tryz.func108
theorem dstate_L (s : List UInt8) : callL Tryz.prog (ext11b chk) 129 [.str s] [] = some (.bool (stS.contains s), [.no], []) := by
 have h : callL Tryz.prog (ext11b chk) 108 [.list stD, .str s] [] = some (.bool (stS.contains s), [.no], []) := contains_L (chk := chk) stS s (by decide)
 generalize stS.contains s = R at *
 exact cW 6 2 Tryz.func129
theorem any_contains2 (l : List (List UInt8)) (v : List UInt8) : l.any (· == v) = l.contains v := by
 rw [← any_contains]
 congr 1
 funext x
 rw [Bool.eq_iff_iff, beq_iff_eq, beq_iff_eq]
 exact eq_comm
set_option maxHeartbeats 4000000 in
theorem has_L (l : List (List UInt8)) (v : List UInt8) (hl : l.length ≤ 140737488355328) : callL Tryz.prog (ext11b chk) 42 [.list (l.map D.str), .str v] [] = some (.bool (l.contains v), [.no], []) := by
 have lN := lenM l D.str
 rw [← any_contains2]
 refine cK 18 4 Tryz.func42 ?_
 have HL := Hd.mk hl
 clear hl
 obtain ⟨R, hR⟩ : ∃ R, Hd (R = l.any (· == v)) := ⟨_, rfl⟩
 rw [← (show R = l.any (· == v) from hR)]
 refine G ?_
 refine loopH (fun st => ∃ i : Nat, i ≤ l.length ∧ st.slot 5 = .int .i64 i ∧ st.slot 0 = .list (l.map D.str) ∧ st.slot 1 = .str v ∧ st.slot 4 = .bool false ∧ st.room 4 = [] ∧ Hd (R = (l.drop i).any (· == v))) (fun st => l.length - slotI st 5) ?_ ?_
 ·exact ⟨0, Nat.zero_le _, I, I, I, I, I, hR⟩
 ·rintro st K ⟨i, hi, g0, g1, g2, g3, g4, hO⟩ hn hx hr
  have hl : l.length ≤ 140737488355328 := HL
  have hO' : R = (l.drop i).any (· == v) := hO
  by_cases h : i < l.length
  ·have g9 : (i : Int) < l.length := by omega
   have hw := wrapS i (by omega)
   obtain ⟨x, hx1⟩ := some_at h
   rw [any_drop _ hx1] at hO'
   have ha := getD_map (f := D.str) hx1
   cases he : (x == v) with
   | true =>
    rw [he, Bool.true_or] at hO'
    subst hO'
    clear hO hn hx hl hx1 hR
    refine G ?_
    exact hr _ W
   | false =>
    rw [he, Bool.false_or] at hO'
    have HO := Hd.mk hO'
    clear hO hO' hx hr hl hx1
    refine G ?_
    exact hn _ ⟨i + 1, h, L, L, L, L, L, HO⟩ Z
  ·have g9 : ¬ (i : Int) < l.length := by omega
   rw [any_end _ (by omega)] at hO'
   subst hO'
   clear hO hn hr hl hR
   refine G ?_
   exact hx _ _ W
def stL : List D := stS.map .str
theorem bs24s : dbuildSlice Tryz.prog 24 10 [(0, .str [104, 111, 118, 101, 114]), (1, .str [97, 99, 116, 105, 118, 101]), (2, .str [102, 111, 99, 117, 115]), (3, .str [102, 111, 99, 117, 115, 45, 118, 105, 115, 105, 98, 108, 101]), (4, .str [118, 105, 115, 105, 116, 101, 100]), (5, .str [108, 105, 110, 107]), (6, .str [99, 104, 101, 99, 107, 101, 100]), (7, .str [100, 105, 115, 97, 98, 108, 101, 100]), (8, .str [101, 110, 97, 98, 108, 101, 100]), (9, .str [116, 97, 114, 103, 101, 116])] = some (.list stL) := by kernel_rfl
theorem rstate_L (s : List UInt8) : callL Tryz.prog (ext11b chk) 54 [.str s] [] = some (.bool (stS.contains s), [.no], []) := by
 have h : callL Tryz.prog (ext11b chk) 42 [.list stL, .str s] [] = some (.bool (stS.contains s), [.no], []) := has_L (chk := chk) stS s (by decide)
 generalize stS.contains s = R at *
 refine cK 6 2 Tryz.func54 ?_
 repeat' (first|simp only [*, bs24s, AVB, ↓reduceIte, Nat.reduceEqDiff, Nat.reduceLT, reduceCtorEq, Nat.reduceBEq])
end Go.Av
namespace Go.Av
open Go.Proofs
variable [Rk] {chk : List D → Bool}
theorem szA (l : List At) : szOk 3 (l.map At.d) = true := by cases l <;> rfl
theorem szS (l : List (List UInt8)) : szOk 1 (l.map D.str) = true := by cases l <;> rfl
theorem szN (l : List Nd) : szOk 7 (l.map Nd.d) = true := by cases l <;> rfl
def atOk (a : At) : Bool := !(a.nm == []) && (goodB a.sp && (goodB a.nm && goodB a.vl))
def attrsG : List At → List At → Bool
 | _, [] => true
 | p, a :: r => (atOk a && !(p.any (sameN a.sp a.nm))) && attrsG (p ++ [a]) r
def attrsB (l : List At) : Bool := attrsG [] l
def statesG : List (List UInt8) → List (List UInt8) → Bool
 | _, [] => true
 | p, s :: r => (stS.contains s && !(p.contains s)) && statesG (p ++ [s]) r
def statesB (l : List (List UInt8)) : Bool := statesG [] l
theorem attrsG_at {xs : List At} {i : Nat} {x : At} (hx : xs[i]? = some x) : attrsG (xs.take i) (xs.drop i) = ((atOk x && !((xs.take i).any (sameN x.sp x.nm))) && attrsG (xs.take (i + 1)) (xs.drop (i + 1))) := by
 have h1 : i < xs.length := (List.getElem?_eq_some_iff.1 hx).1
 have e1 : xs[i] = x := (List.getElem?_eq_some_iff.1 hx).2
 rw [List.drop_eq_getElem_cons h1, e1, attrsG, List.take_succ_eq_append_getElem h1, e1]
theorem statesG_at {xs : List (List UInt8)} {i : Nat} {x : List UInt8} (hx : xs[i]? = some x) : statesG (xs.take i) (xs.drop i) = ((stS.contains x && !((xs.take i).contains x)) && statesG (xs.take (i + 1)) (xs.drop (i + 1))) := by
 have h1 : i < xs.length := (List.getElem?_eq_some_iff.1 hx).1
 have e1 : xs[i] = x := (List.getElem?_eq_some_iff.1 hx).2
 rw [List.drop_eq_getElem_cons h1, e1, statesG, List.take_succ_eq_append_getElem h1, e1]
theorem attrsG_end {xs : List At} {i : Nat} (h : xs.length ≤ i) : attrsG (xs.take i) (xs.drop i) = true := by
 rw [List.drop_eq_nil_of_le h]
 rfl
theorem statesG_end {xs : List (List UInt8)} {i : Nat} (h : xs.length ≤ i) : statesG (xs.take i) (xs.drop i) = true := by
 rw [List.drop_eq_nil_of_le h]
 rfl
def BigA (a : At) : Prop := a.sp.length ≤ 140737488355328 ∧ a.nm.length ≤ 140737488355328 ∧ a.vl.length ≤ 140737488355328
def SmallA (a : At) : Prop := a.sp.length ≤ 1000000 ∧ a.nm.length ≤ 1000000 ∧ a.vl.length ≤ 1000000
set_option maxHeartbeats 16000000 in
theorem attrs_L (l : List At) (hl : l.length ≤ 1000000) (hS : ∀ a ∈ l, SmallA a) : callL Tryz.prog (ext11b chk) 97 [.list (l.map At.d)] [] = some (.bool (attrsB l), [.no], []) := by
 have lN := lenM l At.d
 refine cK 45 2 Tryz.func97 ?_
 have HL := Hd.mk hl
 have HS := Hd.mk hS
 clear hl hS
 obtain ⟨R, hR⟩ : ∃ R, Hd (R = attrsG (l.take 0) (l.drop 0)) := ⟨_, rfl⟩
 rw [show attrsB l = R from (show R = attrsG (l.take 0) (l.drop 0) from hR).symm]
 refine G ?_
 refine loopH (fun st => ∃ i : Nat, i ≤ l.length ∧ st.slot 7 = .int .i64 i ∧ st.slot 5 = .list (l.map At.d) ∧ st.slot 6 = .int .i64 l.length ∧ st.slot 0 = .list (l.map At.d) ∧ st.slot 2 = .bool false ∧ st.room 2 = [] ∧ Hd (R = attrsG (l.take i) (l.drop i))) (fun st => l.length - slotI st 7) ?_ ?_
 ·exact ⟨0, Nat.zero_le _, I, I, I, I, I, I, hR⟩
 ·rintro st K ⟨i, hi, g0, g1, g2, g3, g4, g5, hO⟩ hn hx hr
  have hl : l.length ≤ 1000000 := HL
  have hO' : R = attrsG (l.take i) (l.drop i) := hO
  by_cases h : i < l.length
  ·have g9 : (i : Int) < l.length := by omega
   have hw := wrapS i (by omega)
   obtain ⟨x, hx1⟩ := some_at h
   rw [attrsG_at hx1] at hO'
   have ha := getD_map (f := At.d) hx1
   have hS : ∀ a ∈ l, SmallA a := HS
   obtain ⟨s1, s2, s3⟩ : SmallA x := hS x (List.mem_of_getElem? hx1)
   obtain ⟨a1, a2, a3⟩ := x
   have ha2 : (l.map At.d).getD i .bad = .agg [.str a1, .str a2, .str a3] := ha
   clear ha
   have q1 := dright_L (chk := chk) a1 s1
   have q2 := dright_L (chk := chk) a2 s2
   have q3 := dright_L (chk := chk) a3 s3
   have q4 : callL Tryz.prog (ext11b chk) 128 [.list ((l.map At.d).take i), .str a1, .str a2] [] = some (.int .i64 (idxN (sameN a1 a2) 0 (l.take i)), [.no], []) := by
    rw [← List.map_take]
    exact attr_L (l.take i) a1 a2 (by rw [List.length_take]; omega)
   have q5 := idxN_ge (sameN a1 a2) (l.take i) 0
   have sz := szA l
   have gle : (i : Int) ≤ l.length := by omega
   simp only [atOk] at hO'
   generalize idxN (sameN a1 a2) 0 (l.take i) = X at *
   generalize (l.take i).any (sameN a1 a2) = e5 at *
   generalize goodB a1 = e1 at *
   generalize goodB a2 = e2 at *
   generalize goodB a3 = e3 at *
   clear s1 s2 s3
   cases h0 : (a2 == []) with
   | true =>
    rw [h0] at hO'
    simp only [Bool.not_true, Bool.false_and] at hO'
    subst hO'
    clear hO hn hx hl hx1 hR q5 sz
    repeat' (first|simp only [*, AVB, ↓reduceIte, Nat.reduceEqDiff, Nat.reduceLT, Nat.reduceLeDiff, Nat.reduceBEq, Nat.reduceAdd, dIntBin]|refine drW_intro (by kernel_rfl) ?_)
    exact hr _ W
   | false =>
    rw [h0] at hO'
    cases e1 with
    | false =>
     simp only [Bool.not_false, Bool.false_and, Bool.true_and] at hO'
     subst hO'
     clear hO hn hx hl hx1 hR q5 sz
     repeat' (first|simp only [*, AVB, ↓reduceIte, Nat.reduceEqDiff, Nat.reduceLT, Nat.reduceLeDiff, Nat.reduceBEq, Nat.reduceAdd, dIntBin]|refine drW_intro (by kernel_rfl) ?_)
     exact hr _ W
    | true =>
     cases e2 with
     | false =>
      simp only [Bool.not_false, Bool.false_and, Bool.true_and] at hO'
      subst hO'
      clear hO hn hx hl hx1 hR q5 sz
      repeat' (first|simp only [*, AVB, ↓reduceIte, Nat.reduceEqDiff, Nat.reduceLT, Nat.reduceLeDiff, Nat.reduceBEq, Nat.reduceAdd, dIntBin]|refine drW_intro (by kernel_rfl) ?_)
      exact hr _ W
     | true =>
      cases e3 with
      | false =>
       simp only [Bool.not_false, Bool.false_and, Bool.true_and] at hO'
       subst hO'
       clear hO hn hx hl hx1 hR q5 sz
       repeat' (first|simp only [*, AVB, ↓reduceIte, Nat.reduceEqDiff, Nat.reduceLT, Nat.reduceLeDiff, Nat.reduceBEq, Nat.reduceAdd, dIntBin]|refine drW_intro (by kernel_rfl) ?_)
       exact hr _ W
      | true =>
       cases e5 with
       | true =>
        simp only [Bool.not_false, Bool.not_true, Bool.false_and, Bool.true_and] at hO'
        have q6 : (0 : Int) ≤ X := by simpa using q5
        subst hO'
        clear hO hn hx hl hx1 hR q5
        repeat' (first|simp only [*, AVB, ↓reduceIte, Nat.reduceEqDiff, Nat.reduceLT, Nat.reduceLeDiff, reduceCtorEq, Nat.reduceBEq, Nat.reduceAdd, dIntBin]|refine drW_intro (by kernel_rfl) ?_)
        exact hr _ W
       | false =>
        simp only [Bool.not_false, Bool.true_and] at hO'
        have q6 : ¬ (0 : Int) ≤ X := by simpa using q5
        have HO := Hd.mk hO'
        clear hO hO' hx hr hl hx1 q5
        repeat' (first|simp only [*, AVB, ↓reduceIte, Nat.reduceEqDiff, Nat.reduceLT, Nat.reduceLeDiff, reduceCtorEq, Nat.reduceBEq, Nat.reduceAdd, dIntBin]|refine drW_intro (by kernel_rfl) ?_)
        exact hn _ ⟨i + 1, h, L, L, L, L, L, L, HO⟩ Z
  ·have g9 : ¬ (i : Int) < l.length := by omega
   rw [attrsG_end (by omega)] at hO'
   subst hO'
   clear hO hn hr hl hR
   refine G ?_
   exact hx _ _ W
set_option maxHeartbeats 16000000 in
theorem states_L (l : List (List UInt8)) (hl : l.length ≤ 1000000) : callL Tryz.prog (ext11b chk) 98 [.list (l.map D.str)] [] = some (.bool (statesB l), [.no], []) := by
 have lN := lenM l D.str
 refine cK 23 2 Tryz.func98 ?_
 have HL := Hd.mk hl
 clear hl
 obtain ⟨R, hR⟩ : ∃ R, Hd (R = statesG (l.take 0) (l.drop 0)) := ⟨_, rfl⟩
 rw [show statesB l = R from (show R = statesG (l.take 0) (l.drop 0) from hR).symm]
 refine G ?_
 refine loopH (fun st => ∃ i : Nat, i ≤ l.length ∧ st.slot 7 = .int .i64 i ∧ st.slot 5 = .list (l.map D.str) ∧ st.slot 6 = .int .i64 l.length ∧ st.slot 0 = .list (l.map D.str) ∧ st.slot 2 = .bool false ∧ st.room 2 = [] ∧ Hd (R = statesG (l.take i) (l.drop i))) (fun st => l.length - slotI st 7) ?_ ?_
 ·exact ⟨0, Nat.zero_le _, I, I, I, I, I, I, hR⟩
 ·rintro st K ⟨i, hi, g0, g1, g2, g3, g4, g5, hO⟩ hn hx hr
  have hl : l.length ≤ 1000000 := HL
  have hO' : R = statesG (l.take i) (l.drop i) := hO
  by_cases h : i < l.length
  ·have g9 : (i : Int) < l.length := by omega
   have hw := wrapS i (by omega)
   obtain ⟨x, hx1⟩ := some_at h
   rw [statesG_at hx1] at hO'
   have ha := getD_map (f := D.str) hx1
   have q1 := dstate_L (chk := chk) x
   have q4 : callL Tryz.prog (ext11b chk) 108 [.list ((l.map D.str).take i), .str x] [] = some (.bool ((l.take i).contains x), [.no], []) := by
    rw [← List.map_take]
    exact contains_L (l.take i) x (by rw [List.length_take]; omega)
   have sz := szS l
   have gle : (i : Int) ≤ l.length := by omega
   generalize (l.take i).contains x = e5 at *
   generalize stS.contains x = e1 at *
   cases e1 with
   | false =>
    simp only [Bool.false_and] at hO'
    subst hO'
    clear hO hn hx hl hx1 hR sz
    refine G ?_
    exact hr _ W
   | true =>
    cases e5 with
    | true =>
     simp only [Bool.not_true, Bool.false_and, Bool.true_and] at hO'
     subst hO'
     clear hO hn hx hl hx1 hR
     refine G ?_
     exact hr _ W
    | false =>
     simp only [Bool.not_false, Bool.true_and] at hO'
     have HO := Hd.mk hO'
     clear hO hO' hx hr hl hx1
     refine G ?_
     exact hn _ ⟨i + 1, h, L, L, L, L, L, L, HO⟩ Z
  ·have g9 : ¬ (i : Int) < l.length := by omega
   rw [statesG_end (by omega)] at hO'
   subst hO'
   clear hO hn hr hl hR
   refine G ?_
   exact hx _ _ W
end Go.Av
namespace Go.Av
open Go.Proofs
variable [Rk] {chk : List D → Bool}
def kindAt (ahead : List Nd) (p : Int) : Int := match ahead[p.toNat]? with | some n => n.k | none => 0
def parOk (ahead : List Nd) (p : Int) : Bool := !(decide (p < -1)) && (!(decide ((ahead.length : Int) ≤ p)) && !(decide (0 ≤ p) && (kindAt ahead p != 1)))
def txtF (n : Nd) : Bool := n.sp == [] && (n.nm == [] && (((n.at_.length : Int) == 0) && (((n.st.length : Int) == 0) && goodB n.tx)))
def elmF (n : Nd) : Bool := n.tx == [] && (!(n.nm == []) && (goodB n.nm && (goodB n.sp && (attrsB n.at_ && statesB n.st))))
def bodyF (n : Nd) : Bool := if n.k = 1 then elmF n else if n.k = 2 then (if n.p < 0 then false else txtF n) else if n.k = 3 then txtF n else false
def nodeF (ahead : List Nd) (n : Nd) : Bool := parOk ahead n.p && bodyF n
def BigN (n : Nd) : Prop := n.at_.length ≤ 140737488355328 ∧ n.st.length ≤ 140737488355328 ∧ n.nm.length ≤ 140737488355328 ∧ n.sp.length ≤ 140737488355328 ∧ n.tx.length ≤ 140737488355328 ∧ ∀ a ∈ n.at_, BigA a
def SmallN (n : Nd) : Prop := n.at_.length ≤ 1000000 ∧ n.st.length ≤ 1000000 ∧ n.nm.length ≤ 1000000 ∧ n.sp.length ≤ 1000000 ∧ n.tx.length ≤ 1000000 ∧ ∀ a ∈ n.at_, SmallA a
theorem kind_at {ahead : List Nd} {p : Int} (h0 : 0 ≤ p) (h1 : p < ahead.length) : ∃ p' k' sp nm la ls tx, (ahead.map Nd.d).getD p.toNat .bad = .agg [.int .i64 p', .int .i64 k', .str sp, .str nm, .list la, .list ls, .str tx] ∧ kindAt ahead p = k' := by
 obtain ⟨x, hx⟩ := some_at (show p.toNat < ahead.length by omega)
 refine ⟨x.p, x.k, x.sp, x.nm, x.at_.map At.d, x.st.map .str, x.tx, getD_map (f := Nd.d) hx, ?_⟩
 unfold kindAt
 rw [hx]
set_option maxHeartbeats 16000000 in
theorem body_L (ahead : List Nd) (n : Nd) (hn : SmallN n) (h : parOk ahead n.p = true) : callL Tryz.prog (ext11b chk) 56 [.list (ahead.map Nd.d), n.d] [] = some (.bool (bodyF n), [.no], []) := by
 obtain ⟨p, k, sp, nm, la, ls, tx⟩ := n
 obtain ⟨s1, s2, s3, s4, s5, s6⟩ := hn
 have q1 := dright_L (chk := chk) nm s3
 have q2 := dright_L (chk := chk) sp s4
 have q3 := dright_L (chk := chk) tx s5
 have q4 := attrs_L (chk := chk) la s1 s6
 have q5 := states_L (chk := chk) ls s2
 have lN := lenM ahead Nd.d
 have lA := lenM la At.d
 have lS := lenM ls D.str
 clear s1 s2 s3 s4 s5 s6
 unfold parOk at h
 simp only [Bool.and_eq_true, Bool.not_eq_eq_eq_not, Bool.not_true, decide_eq_false_iff_not] at h
 obtain ⟨h1, h2, h3⟩ := h
 simp only [bodyF, elmF, txtF, Nd.d]
 generalize goodB nm = e1 at *
 generalize goodB sp = e2 at *
 generalize goodB tx = e3 at *
 generalize attrsB la = e4 at *
 generalize statesB ls = e5 at *
 generalize la.map At.d = LA at *
 generalize ls.map D.str = LS at *
 by_cases h0 : 0 ≤ p
 ·obtain ⟨p', k', sp', nm', la', ls', tx', ha, hk⟩ := kind_at (ahead := ahead) h0 (by omega)
  rw [hk] at h3
  have h5 : ¬ p < 0 := by omega
  have h4 : (k' != 1) = false := by simpa [h0] using h3
  clear h3 hk
  generalize ahead.map Nd.d = AH at *
  have gp : p < AH.length := by omega
  have h2' : ¬ (AH.length : Int) ≤ p := by omega
  clear lN h2
  by_cases k1 : k = 1
  ·subst k1
   cases c1 : (tx == []) with
   | false =>
    exact cW 93 4 Tryz.func56
   | true =>
    cases c2 : (nm == []) with
    | true =>
     exact cW 93 4 Tryz.func56
    | false =>
     cases e1 with
     | false =>
      exact cW 93 4 Tryz.func56
     | true =>
      cases e2 with
      | false =>
       exact cW 93 4 Tryz.func56
      | true =>
       cases e4 with
       | false =>
        exact cW 93 4 Tryz.func56
       | true =>
        exact cW 93 4 Tryz.func56
  ·by_cases k2 : k = 2
   ·subst k2
    cases c1 : (sp == []) with
    | false =>
     exact cW 93 4 Tryz.func56
    | true =>
     cases c2 : (nm == []) with
     | false =>
      exact cW 93 4 Tryz.func56
     | true =>
      cases c3 : ((la.length : Int) == 0) with
      | false =>
       exact cW 93 4 Tryz.func56
      | true =>
       cases c4 : ((ls.length : Int) == 0) with
       | false =>
        exact cW 93 4 Tryz.func56
       | true =>
        exact cW 93 4 Tryz.func56
   ·by_cases k3 : k = 3
    ·subst k3
     cases c1 : (sp == []) with
     | false =>
      exact cW 93 4 Tryz.func56
     | true =>
      cases c2 : (nm == []) with
      | false =>
       exact cW 93 4 Tryz.func56
      | true =>
       cases c3 : ((la.length : Int) == 0) with
       | false =>
        exact cW 93 4 Tryz.func56
       | true =>
        cases c4 : ((ls.length : Int) == 0) with
        | false =>
         exact cW 93 4 Tryz.func56
        | true =>
         exact cW 93 4 Tryz.func56
    ·have b1 : (k == 1) = false := by simpa using k1
     have b2 : (k == 2) = false := by simpa using k2
     have b3 : (k == 3) = false := by simpa using k3
     exact cW 93 4 Tryz.func56
 ·have h5 : p < 0 := by omega
  clear h3
  generalize ahead.map Nd.d = AH at *
  have h2' : ¬ (AH.length : Int) ≤ p := by omega
  clear lN h2
  by_cases k1 : k = 1
  ·subst k1
   cases c1 : (tx == []) with
   | false =>
    exact cW 93 4 Tryz.func56
   | true =>
    cases c2 : (nm == []) with
    | true =>
     exact cW 93 4 Tryz.func56
    | false =>
     cases e1 with
     | false =>
      exact cW 93 4 Tryz.func56
     | true =>
      cases e2 with
      | false =>
       exact cW 93 4 Tryz.func56
      | true =>
       cases e4 with
       | false =>
        exact cW 93 4 Tryz.func56
       | true =>
        exact cW 93 4 Tryz.func56
  ·by_cases k2 : k = 2
   ·subst k2
    exact cW 93 4 Tryz.func56
   ·by_cases k3 : k = 3
    ·subst k3
     cases c1 : (sp == []) with
     | false =>
      exact cW 93 4 Tryz.func56
     | true =>
      cases c2 : (nm == []) with
      | false =>
       exact cW 93 4 Tryz.func56
      | true =>
       cases c3 : ((la.length : Int) == 0) with
       | false =>
        exact cW 93 4 Tryz.func56
       | true =>
        cases c4 : ((ls.length : Int) == 0) with
        | false =>
         exact cW 93 4 Tryz.func56
        | true =>
         exact cW 93 4 Tryz.func56
    ·have b1 : (k == 1) = false := by simpa using k1
     have b2 : (k == 2) = false := by simpa using k2
     have b3 : (k == 3) = false := by simpa using k3
     exact cW 93 4 Tryz.func56
theorem par_L (ahead : List Nd) (n : Nd) (h : parOk ahead n.p = false) : callL Tryz.prog (ext11b chk) 56 [.list (ahead.map Nd.d), n.d] [] = some (.bool false, [.no], []) := by
 obtain ⟨p, k, sp, nm, la, ls, tx⟩ := n
 have lN := lenM ahead Nd.d
 unfold parOk at h
 simp only [Nd.d]
 simp only [] at h
 generalize la.map At.d = LA at *
 generalize ls.map D.str = LS at *
 by_cases h1 : p < -1
 ·generalize ahead.map Nd.d = AH at *
  clear lN h
  exact cW 93 4 Tryz.func56
 ·by_cases h2 : (ahead.length : Int) ≤ p
  ·generalize ahead.map Nd.d = AH at *
   have h2' : (AH.length : Int) ≤ p := by omega
   clear lN h h2
   exact cW 93 4 Tryz.func56
  ·by_cases h0 : 0 ≤ p
   ·obtain ⟨p', k', sp', nm', la', ls', tx', ha, hk⟩ := kind_at (ahead := ahead) h0 (by omega)
    rw [hk] at h
    have h4 : (k' != 1) = true := by simpa [h0, h1, h2] using h
    generalize ahead.map Nd.d = AH at *
    have gp : p < AH.length := by omega
    have h2' : ¬ (AH.length : Int) ≤ p := by omega
    clear lN h2 h hk
    exact cW 93 4 Tryz.func56
   ·simp [h0, h1, h2] at h
theorem node_L (ahead : List Nd) (n : Nd) (hn : SmallN n) : callL Tryz.prog (ext11b chk) 56 [.list (ahead.map Nd.d), n.d] [] = some (.bool (nodeF ahead n), [.no], []) := by
 unfold nodeF
 cases h : parOk ahead n.p with
 | true => rw [Bool.true_and]; exact body_L ahead n hn h
 | false => rw [Bool.false_and]; exact par_L ahead n h
end Go.Av
