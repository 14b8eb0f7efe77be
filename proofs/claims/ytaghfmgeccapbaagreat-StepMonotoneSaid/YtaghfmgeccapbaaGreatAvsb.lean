/- The evaluator, in one text: over any program; no conditions but those that each law names. -/
import Derived.Test.YtaghfmgeccapbaaGreatAvsa
import Derived.Test.YtaghfmgeccapbaaGreatAvb
set_option linter.unusedSimpArgs false
set_option linter.unusedVariables false
set_option linter.unusedSectionVars false
set_option maxRecDepth 10000
namespace Go.Av.Yr
open Go.Proofs Go.Av
theorem ty26 : aggOf Tryz.prog 26 = some true ∧ sizeT Tryz.prog 26 = some 4 := ⟨by kernel_rfl, by kernel_rfl⟩
theorem dp26 (x0 x1 x2 x3 : D) : dpart Tryz.prog 26 [x0, x1, x2, x3] 0 = some (.agg [x0, x1, x2, x3]) := by simp only [dpart, ty26.1, ty26.2]; rfl
theorem fa26_0 (d : D) (off : Nat) : dfieldAddr Tryz.prog 26 (.fix d off) 0 = some (.fix d (off + 0)) := by kernel_rfl
theorem fp26_0 (k g off : Nat) : dfieldAddr Tryz.prog 26 (.ptr k g off) 0 = some (.ptr k g (off + 0)) := by kernel_rfl
theorem df26_0 (x0 x1 x2 x3 : D) : dfield Tryz.prog 26 (.agg [x0, x1, x2, x3]) 0 = some x0 := by kernel_rfl
theorem ty4 : aggOf Tryz.prog 4 = some false ∧ sizeT Tryz.prog 4 = some 1 ∧ Tryz.prog.underlying 4 = some (.bool) := ⟨by kernel_rfl, by kernel_rfl, by kernel_rfl⟩
theorem dp4 (cs : List D) (off : Nat) : dpart Tryz.prog 4 cs off = cs[off]? := by simp only [dpart, ty4.1]
theorem sz4 : sizeT Tryz.prog 4 = some 1 := by kernel_rfl
theorem fa26_1 (d : D) (off : Nat) : dfieldAddr Tryz.prog 26 (.fix d off) 1 = some (.fix d (off + 1)) := by kernel_rfl
theorem fp26_1 (k g off : Nat) : dfieldAddr Tryz.prog 26 (.ptr k g off) 1 = some (.ptr k g (off + 1)) := by kernel_rfl
theorem df26_1 (x0 x1 x2 x3 : D) : dfield Tryz.prog 26 (.agg [x0, x1, x2, x3]) 1 = some x1 := by kernel_rfl
theorem ty9 : aggOf Tryz.prog 9 = some false ∧ sizeT Tryz.prog 9 = some 1 ∧ Tryz.prog.underlying 9 = some (.string) := ⟨by kernel_rfl, by kernel_rfl, by kernel_rfl⟩
theorem dp9 (cs : List D) (off : Nat) : dpart Tryz.prog 9 cs off = cs[off]? := by simp only [dpart, ty9.1]
theorem sz9 : sizeT Tryz.prog 9 = some 1 := by kernel_rfl
theorem len9 (s : List UInt8) : dlen Tryz.prog #[9] (.str s) = some (.int .i64 s.length) := by kernel_rfl
theorem fa26_2 (d : D) (off : Nat) : dfieldAddr Tryz.prog 26 (.fix d off) 2 = some (.fix d (off + 2)) := by kernel_rfl
theorem fp26_2 (k g off : Nat) : dfieldAddr Tryz.prog 26 (.ptr k g off) 2 = some (.ptr k g (off + 2)) := by kernel_rfl
theorem df26_2 (x0 x1 x2 x3 : D) : dfield Tryz.prog 26 (.agg [x0, x1, x2, x3]) 2 = some x2 := by kernel_rfl
theorem ty24 : elemT Tryz.prog 24 = some 9 ∧ Tryz.prog.underlying 24 = some (.slice 9) ∧ aggOf Tryz.prog 24 = some false := ⟨by kernel_rfl, by kernel_rfl, by kernel_rfl⟩
theorem sz24 : sizeT Tryz.prog 24 = some 1 := by kernel_rfl
theorem dp24 (cs : List D) (off : Nat) : dpart Tryz.prog 24 cs off = cs[off]? := by simp only [dpart, ty24.2.2]
theorem ia24 (es : List D) (ki : IntKind) (i : Int) : dindexAddr Tryz.prog 24 (.list es) (.int ki i) = if 0 ≤ i ∧ i < es.length then (if (dcells (es.getD i.toNat .bad)).length = 1 then some (.fix (es.getD i.toNat .bad) 0) else none) else none := by
  simp only [dindexAddr, ty24.1, sz9]
theorem ir24 (k g n : Nat) (ag : Bool) (ki : IntKind) (i : Int) : dindexAddr Tryz.prog 24 (.row k g n 1 ag) (.int ki i) = if 0 ≤ i ∧ i < n then some (.ptr k g (i.toNat * 1)) else none := by
  simp only [dindexAddr, ty24.1, sz9, and_true]
theorem len24 (l : List D) : dlen Tryz.prog #[24] (.list l) = some (.int .i64 l.length) := by kernel_rfl
theorem lenr24 (k g n sz : Nat) (ag : Bool) : dlen Tryz.prog #[24] (.row k g n sz ag) = some (.int .i64 n) := by kernel_rfl
theorem sl24 (es : List D) (lo hi : Option D) : dslice Tryz.prog 24 (.list es) lo hi none = if szOk 1 es = true then (dopt hi es.length es.length).bind fun h => (dopt lo h 0).map fun l => .list ((es.take h).drop l) else none := by kernel_rfl
theorem bt24 : bytesT Tryz.prog 24 = false := by kernel_rfl
theorem ap24 (es fs : List D) (r : List Room) : dappend Tryz.prog #[24, 24] (.list es) (.list fs) r = if lenOk (es.length + fs.length) 16 = true ∧ szOk 1 fs = true ∧ szOk 1 es = true ∧ (r = [.full] ∨ r = [.own 9] ∨ r = [.fresh]) then some (.list (es ++ fs), 9) else none := by
  have : (Tryz.prog.info? 9).map (fun i => (infoOk i, i.size, i.bytes)) = some (true, 1, 16) := by kernel_rfl
  obtain ⟨i, hi, h⟩ := Option.map_eq_some_iff.1 this
  injection h with h1 h2
  injection h2 with h2 h3
  simp only [dappend, ty24.1, hi, h1, h2, h3, if_true, true_and]
theorem ra24 (fs : List D) (h : 0 < fs.length) : rowApp Tryz.prog [24, 24] (.list []) [.full] (.list fs) = if lenOk fs.length 16 = true ∧ szOk 1 fs = true then some (fs, 1, false) else none := by
  have : (Tryz.prog.info? 9).map (fun i => (infoOk i, i.size, i.bytes)) = some (true, 1, 16) := by kernel_rfl
  obtain ⟨i, hi, h'⟩ := Option.map_eq_some_iff.1 this
  injection h' with h1 h2
  injection h2 with h2 h3
  have ha : aggOf Tryz.prog 9 = some false := by kernel_rfl
  simp only [rowApp, ty24.1, hi, ha, h1, h2, h3, h, true_and, and_self, if_true]
theorem zr24 : zeroOf Tryz.prog 24 = some [.list []] := by kernel_rfl
theorem zrm24 : zrooms Tryz.prog 24 = [.full] := by kernel_rfl
theorem bs24_0 : dbuildSlice Tryz.prog 24 0 [] = some (.list []) := by kernel_rfl
theorem fa26_3 (d : D) (off : Nat) : dfieldAddr Tryz.prog 26 (.fix d off) 3 = some (.fix d (off + 3)) := by kernel_rfl
theorem fp26_3 (k g off : Nat) : dfieldAddr Tryz.prog 26 (.ptr k g off) 3 = some (.ptr k g (off + 3)) := by kernel_rfl
theorem df26_3 (x0 x1 x2 x3 : D) : dfield Tryz.prog 26 (.agg [x0, x1, x2, x3]) 3 = some x3 := by kernel_rfl
theorem zr26 : zeroOf Tryz.prog 26 = some [.bool false, .str [], .list [], .list []] := by kernel_rfl
theorem zrm26 : zrooms Tryz.prog 26 = [.no, .no, .full, .full] := by kernel_rfl
theorem pr4_0 (rs : List Room) : putR rs 0 4 [] = [.no, .no, .no, .no] ++ rs.drop 4 := rfl
theorem ty65 : aggOf Tryz.prog 65 = some true ∧ sizeT Tryz.prog 65 = some 2 := ⟨by kernel_rfl, by kernel_rfl⟩
theorem dp65 (x0 x1 : D) : dpart Tryz.prog 65 [x0, x1] 0 = some (.agg [x0, x1]) := by simp only [dpart, ty65.1, ty65.2]; rfl
theorem fa65_0 (d : D) (off : Nat) : dfieldAddr Tryz.prog 65 (.fix d off) 0 = some (.fix d (off + 0)) := by kernel_rfl
theorem fp65_0 (k g off : Nat) : dfieldAddr Tryz.prog 65 (.ptr k g off) 0 = some (.ptr k g (off + 0)) := by kernel_rfl
theorem df65_0 (x0 x1 : D) : dfield Tryz.prog 65 (.agg [x0, x1]) 0 = some x0 := by kernel_rfl
theorem ty3 : aggOf Tryz.prog 3 = some false ∧ sizeT Tryz.prog 3 = some 1 ∧ Tryz.prog.underlying 3 = some (.int .i64) := ⟨by kernel_rfl, by kernel_rfl, by kernel_rfl⟩
theorem dp3 (cs : List D) (off : Nat) : dpart Tryz.prog 3 cs off = cs[off]? := by simp only [dpart, ty3.1]
theorem sz3 : sizeT Tryz.prog 3 = some 1 := by kernel_rfl
theorem fa65_1 (d : D) (off : Nat) : dfieldAddr Tryz.prog 65 (.fix d off) 1 = some (.fix d (off + 1)) := by kernel_rfl
theorem fp65_1 (k g off : Nat) : dfieldAddr Tryz.prog 65 (.ptr k g off) 1 = some (.ptr k g (off + 1)) := by kernel_rfl
theorem df65_1 (x0 x1 : D) : dfield Tryz.prog 65 (.agg [x0, x1]) 1 = some x1 := by kernel_rfl
theorem zr65 : zeroOf Tryz.prog 65 = some [.int .i64 0, .str []] := by kernel_rfl
theorem zrm65 : zrooms Tryz.prog 65 = [.no, .no] := by kernel_rfl
theorem pr2_0 (rs : List Room) : putR rs 0 2 [] = [.no, .no] ++ rs.drop 2 := rfl
theorem ty104 : aggOf Tryz.prog 104 = some true ∧ sizeT Tryz.prog 104 = some 11 := ⟨by kernel_rfl, by kernel_rfl⟩
theorem dp104 (x0 x1 x2 x3 x4 x5 x6 x7 x8 x9 x10 : D) : dpart Tryz.prog 104 [x0, x1, x2, x3, x4, x5, x6, x7, x8, x9, x10] 0 = some (.agg [x0, x1, x2, x3, x4, x5, x6, x7, x8, x9, x10]) := by simp only [dpart, ty104.1, ty104.2]; rfl
theorem fa104_0 (d : D) (off : Nat) : dfieldAddr Tryz.prog 104 (.fix d off) 0 = some (.fix d (off + 0)) := by kernel_rfl
theorem fp104_0 (k g off : Nat) : dfieldAddr Tryz.prog 104 (.ptr k g off) 0 = some (.ptr k g (off + 0)) := by kernel_rfl
theorem df104_0 (x0 x1 x2 x3 x4 x5 x6 x7 x8 x9 x10 : D) : dfield Tryz.prog 104 (.agg [x0, x1, x2, x3, x4, x5, x6, x7, x8, x9, x10]) 0 = some x0 := by kernel_rfl
theorem fa104_1 (d : D) (off : Nat) : dfieldAddr Tryz.prog 104 (.fix d off) 1 = some (.fix d (off + 1)) := by kernel_rfl
theorem fp104_1 (k g off : Nat) : dfieldAddr Tryz.prog 104 (.ptr k g off) 1 = some (.ptr k g (off + 1)) := by kernel_rfl
theorem df104_1 (x0 x1 x2 x3 x4 x5 x6 x7 x8 x9 x10 : D) : dfield Tryz.prog 104 (.agg [x0, x1, x2, x3, x4, x5, x6, x7, x8, x9, x10]) 1 = some x1 := by kernel_rfl
theorem fa104_2 (d : D) (off : Nat) : dfieldAddr Tryz.prog 104 (.fix d off) 2 = some (.fix d (off + 2)) := by kernel_rfl
theorem fp104_2 (k g off : Nat) : dfieldAddr Tryz.prog 104 (.ptr k g off) 2 = some (.ptr k g (off + 2)) := by kernel_rfl
theorem df104_2 (x0 x1 x2 x3 x4 x5 x6 x7 x8 x9 x10 : D) : dfield Tryz.prog 104 (.agg [x0, x1, x2, x3, x4, x5, x6, x7, x8, x9, x10]) 2 = some x2 := by kernel_rfl
theorem fa104_3 (d : D) (off : Nat) : dfieldAddr Tryz.prog 104 (.fix d off) 3 = some (.fix d (off + 3)) := by kernel_rfl
theorem fp104_3 (k g off : Nat) : dfieldAddr Tryz.prog 104 (.ptr k g off) 3 = some (.ptr k g (off + 3)) := by kernel_rfl
theorem df104_3 (x0 x1 x2 x3 x4 x5 x6 x7 x8 x9 x10 : D) : dfield Tryz.prog 104 (.agg [x0, x1, x2, x3, x4, x5, x6, x7, x8, x9, x10]) 3 = some x3 := by kernel_rfl
theorem fa104_4 (d : D) (off : Nat) : dfieldAddr Tryz.prog 104 (.fix d off) 4 = some (.fix d (off + 4)) := by kernel_rfl
theorem fp104_4 (k g off : Nat) : dfieldAddr Tryz.prog 104 (.ptr k g off) 4 = some (.ptr k g (off + 4)) := by kernel_rfl
theorem ty102 : aggOf Tryz.prog 102 = some true ∧ sizeT Tryz.prog 102 = some 3 := ⟨by kernel_rfl, by kernel_rfl⟩
theorem dp102 (x0 x1 x2 : D) : dpart Tryz.prog 102 [x0, x1, x2] 0 = some (.agg [x0, x1, x2]) := by simp only [dpart, ty102.1, ty102.2]; rfl
theorem fa102_0 (d : D) (off : Nat) : dfieldAddr Tryz.prog 102 (.fix d off) 0 = some (.fix d (off + 0)) := by kernel_rfl
theorem fp102_0 (k g off : Nat) : dfieldAddr Tryz.prog 102 (.ptr k g off) 0 = some (.ptr k g (off + 0)) := by kernel_rfl
theorem df102_0 (x0 x1 x2 : D) : dfield Tryz.prog 102 (.agg [x0, x1, x2]) 0 = some x0 := by kernel_rfl
theorem fa102_1 (d : D) (off : Nat) : dfieldAddr Tryz.prog 102 (.fix d off) 1 = some (.fix d (off + 1)) := by kernel_rfl
theorem fp102_1 (k g off : Nat) : dfieldAddr Tryz.prog 102 (.ptr k g off) 1 = some (.ptr k g (off + 1)) := by kernel_rfl
theorem df102_1 (x0 x1 x2 : D) : dfield Tryz.prog 102 (.agg [x0, x1, x2]) 1 = some x1 := by kernel_rfl
theorem fa102_2 (d : D) (off : Nat) : dfieldAddr Tryz.prog 102 (.fix d off) 2 = some (.fix d (off + 2)) := by kernel_rfl
theorem fp102_2 (k g off : Nat) : dfieldAddr Tryz.prog 102 (.ptr k g off) 2 = some (.ptr k g (off + 2)) := by kernel_rfl
theorem df102_2 (x0 x1 x2 : D) : dfield Tryz.prog 102 (.agg [x0, x1, x2]) 2 = some x2 := by kernel_rfl
theorem zr102 : zeroOf Tryz.prog 102 = some [.int .i64 0, .str [], .bool false] := by kernel_rfl
theorem zrm102 : zrooms Tryz.prog 102 = [.no, .no, .no] := by kernel_rfl
theorem pr3_0 (rs : List Room) : putR rs 0 3 [] = [.no, .no, .no] ++ rs.drop 3 := rfl
theorem df104_4 (x0 x1 x2 x3 x4 x5 x6 x7 x8 x9 x10 : D) : dfield Tryz.prog 104 (.agg [x0, x1, x2, x3, x4, x5, x6, x7, x8, x9, x10]) 4 = some (.agg [x4, x5, x6]) := by kernel_rfl
theorem dp102_4_11 (x0 x1 x2 x3 x4 x5 x6 x7 x8 x9 x10 : D) : dpart Tryz.prog 102 [x0, x1, x2, x3, x4, x5, x6, x7, x8, x9, x10] 4 = some (.agg [x4, x5, x6]) := by simp only [dpart, ty102.1, ty102.2]; rfl
theorem fa104_5 (d : D) (off : Nat) : dfieldAddr Tryz.prog 104 (.fix d off) 5 = some (.fix d (off + 7)) := by kernel_rfl
theorem fp104_5 (k g off : Nat) : dfieldAddr Tryz.prog 104 (.ptr k g off) 5 = some (.ptr k g (off + 7)) := by kernel_rfl
theorem df104_5 (x0 x1 x2 x3 x4 x5 x6 x7 x8 x9 x10 : D) : dfield Tryz.prog 104 (.agg [x0, x1, x2, x3, x4, x5, x6, x7, x8, x9, x10]) 5 = some x7 := by kernel_rfl
theorem fa104_6 (d : D) (off : Nat) : dfieldAddr Tryz.prog 104 (.fix d off) 6 = some (.fix d (off + 8)) := by kernel_rfl
theorem fp104_6 (k g off : Nat) : dfieldAddr Tryz.prog 104 (.ptr k g off) 6 = some (.ptr k g (off + 8)) := by kernel_rfl
theorem ty89 : aggOf Tryz.prog 89 = some true ∧ sizeT Tryz.prog 89 = some 2 := ⟨by kernel_rfl, by kernel_rfl⟩
theorem dp89 (x0 x1 : D) : dpart Tryz.prog 89 [x0, x1] 0 = some (.agg [x0, x1]) := by simp only [dpart, ty89.1, ty89.2]; rfl
theorem fa89_0 (d : D) (off : Nat) : dfieldAddr Tryz.prog 89 (.fix d off) 0 = some (.fix d (off + 0)) := by kernel_rfl
theorem fp89_0 (k g off : Nat) : dfieldAddr Tryz.prog 89 (.ptr k g off) 0 = some (.ptr k g (off + 0)) := by kernel_rfl
theorem df89_0 (x0 x1 : D) : dfield Tryz.prog 89 (.agg [x0, x1]) 0 = some x0 := by kernel_rfl
theorem fa89_1 (d : D) (off : Nat) : dfieldAddr Tryz.prog 89 (.fix d off) 1 = some (.fix d (off + 1)) := by kernel_rfl
theorem fp89_1 (k g off : Nat) : dfieldAddr Tryz.prog 89 (.ptr k g off) 1 = some (.ptr k g (off + 1)) := by kernel_rfl
theorem df89_1 (x0 x1 : D) : dfield Tryz.prog 89 (.agg [x0, x1]) 1 = some x1 := by kernel_rfl
theorem zr89 : zeroOf Tryz.prog 89 = some [.int .i64 0, .int .i64 0] := by kernel_rfl
theorem zrm89 : zrooms Tryz.prog 89 = [.no, .no] := by kernel_rfl
theorem df104_6 (x0 x1 x2 x3 x4 x5 x6 x7 x8 x9 x10 : D) : dfield Tryz.prog 104 (.agg [x0, x1, x2, x3, x4, x5, x6, x7, x8, x9, x10]) 6 = some (.agg [x8, x9]) := by kernel_rfl
theorem dp89_8_11 (x0 x1 x2 x3 x4 x5 x6 x7 x8 x9 x10 : D) : dpart Tryz.prog 89 [x0, x1, x2, x3, x4, x5, x6, x7, x8, x9, x10] 8 = some (.agg [x8, x9]) := by simp only [dpart, ty89.1, ty89.2]; rfl
theorem fa104_7 (d : D) (off : Nat) : dfieldAddr Tryz.prog 104 (.fix d off) 7 = some (.fix d (off + 10)) := by kernel_rfl
theorem fp104_7 (k g off : Nat) : dfieldAddr Tryz.prog 104 (.ptr k g off) 7 = some (.ptr k g (off + 10)) := by kernel_rfl
theorem df104_7 (x0 x1 x2 x3 x4 x5 x6 x7 x8 x9 x10 : D) : dfield Tryz.prog 104 (.agg [x0, x1, x2, x3, x4, x5, x6, x7, x8, x9, x10]) 7 = some x10 := by kernel_rfl
theorem ty59 : aggOf Tryz.prog 59 = some true ∧ sizeT Tryz.prog 59 = some 1 := ⟨by kernel_rfl, by kernel_rfl⟩
theorem dp59 (x0 : D) : dpart Tryz.prog 59 [x0] 0 = some (.agg [x0]) := by simp only [dpart, ty59.1, ty59.2]; rfl
theorem fa59_0 (d : D) (off : Nat) : dfieldAddr Tryz.prog 59 (.fix d off) 0 = some (.fix d (off + 0)) := by kernel_rfl
theorem fp59_0 (k g off : Nat) : dfieldAddr Tryz.prog 59 (.ptr k g off) 0 = some (.ptr k g (off + 0)) := by kernel_rfl
theorem df59_0 (x0 : D) : dfield Tryz.prog 59 (.agg [x0]) 0 = some x0 := by kernel_rfl
theorem ty99 : aggOf Tryz.prog 99 = some true ∧ sizeT Tryz.prog 99 = some 2 := ⟨by kernel_rfl, by kernel_rfl⟩
theorem dp99 (x0 x1 : D) : dpart Tryz.prog 99 [x0, x1] 0 = some (.agg [x0, x1]) := by simp only [dpart, ty99.1, ty99.2]; rfl
theorem fa99_0 (d : D) (off : Nat) : dfieldAddr Tryz.prog 99 (.fix d off) 0 = some (.fix d (off + 0)) := by kernel_rfl
theorem fp99_0 (k g off : Nat) : dfieldAddr Tryz.prog 99 (.ptr k g off) 0 = some (.ptr k g (off + 0)) := by kernel_rfl
theorem df99_0 (x0 x1 : D) : dfield Tryz.prog 99 (.agg [x0, x1]) 0 = some x0 := by kernel_rfl
theorem fa99_1 (d : D) (off : Nat) : dfieldAddr Tryz.prog 99 (.fix d off) 1 = some (.fix d (off + 1)) := by kernel_rfl
theorem fp99_1 (k g off : Nat) : dfieldAddr Tryz.prog 99 (.ptr k g off) 1 = some (.ptr k g (off + 1)) := by kernel_rfl
theorem df99_1 (x0 x1 : D) : dfield Tryz.prog 99 (.agg [x0, x1]) 1 = some x1 := by kernel_rfl
theorem ty97 : elemT Tryz.prog 97 = some 104 ∧ Tryz.prog.underlying 97 = some (.slice 104) ∧ aggOf Tryz.prog 97 = some false := ⟨by kernel_rfl, by kernel_rfl, by kernel_rfl⟩
theorem sz97 : sizeT Tryz.prog 97 = some 1 := by kernel_rfl
theorem dp97 (cs : List D) (off : Nat) : dpart Tryz.prog 97 cs off = cs[off]? := by simp only [dpart, ty97.2.2]
theorem ia97 (es : List D) (ki : IntKind) (i : Int) : dindexAddr Tryz.prog 97 (.list es) (.int ki i) = if 0 ≤ i ∧ i < es.length then (if (dcells (es.getD i.toNat .bad)).length = 11 then some (.fix (es.getD i.toNat .bad) 0) else none) else none := by
  simp only [dindexAddr, ty97.1, ty104.2]
theorem ir97 (k g n : Nat) (ag : Bool) (ki : IntKind) (i : Int) : dindexAddr Tryz.prog 97 (.row k g n 11 ag) (.int ki i) = if 0 ≤ i ∧ i < n then some (.ptr k g (i.toNat * 11)) else none := by
  simp only [dindexAddr, ty97.1, ty104.2, and_true]
theorem len97 (l : List D) : dlen Tryz.prog #[97] (.list l) = some (.int .i64 l.length) := by kernel_rfl
theorem lenr97 (k g n sz : Nat) (ag : Bool) : dlen Tryz.prog #[97] (.row k g n sz ag) = some (.int .i64 n) := by kernel_rfl
theorem sl97 (es : List D) (lo hi : Option D) : dslice Tryz.prog 97 (.list es) lo hi none = if szOk 11 es = true then (dopt hi es.length es.length).bind fun h => (dopt lo h 0).map fun l => .list ((es.take h).drop l) else none := by kernel_rfl
theorem bt97 : bytesT Tryz.prog 97 = false := by kernel_rfl
theorem ap97 (es fs : List D) (r : List Room) : dappend Tryz.prog #[97, 97] (.list es) (.list fs) r = if lenOk (es.length + fs.length) 128 = true ∧ szOk 11 fs = true ∧ szOk 11 es = true ∧ (r = [.full] ∨ r = [.own 104] ∨ r = [.fresh]) then some (.list (es ++ fs), 104) else none := by
  have : (Tryz.prog.info? 104).map (fun i => (infoOk i, i.size, i.bytes)) = some (true, 11, 128) := by kernel_rfl
  obtain ⟨i, hi, h⟩ := Option.map_eq_some_iff.1 this
  injection h with h1 h2
  injection h2 with h2 h3
  simp only [dappend, ty97.1, hi, h1, h2, h3, if_true, true_and]
theorem ra97 (fs : List D) (h : 0 < fs.length) : rowApp Tryz.prog [97, 97] (.list []) [.full] (.list fs) = if lenOk fs.length 128 = true ∧ szOk 11 fs = true then some (fs, 11, true) else none := by
  have : (Tryz.prog.info? 104).map (fun i => (infoOk i, i.size, i.bytes)) = some (true, 11, 128) := by kernel_rfl
  obtain ⟨i, hi, h'⟩ := Option.map_eq_some_iff.1 this
  injection h' with h1 h2
  injection h2 with h2 h3
  have ha : aggOf Tryz.prog 104 = some true := by kernel_rfl
  simp only [rowApp, ty97.1, hi, ha, h1, h2, h3, h, true_and, and_self, if_true]
theorem zr97 : zeroOf Tryz.prog 97 = some [.list []] := by kernel_rfl
theorem zrm97 : zrooms Tryz.prog 97 = [.full] := by kernel_rfl
theorem bs97_0 : dbuildSlice Tryz.prog 97 0 [] = some (.list []) := by kernel_rfl
theorem zr99 : zeroOf Tryz.prog 99 = some [.int .i64 0, .list []] := by kernel_rfl
theorem zrm99 : zrooms Tryz.prog 99 = [.no, .full] := by kernel_rfl
theorem ty57 : elemT Tryz.prog 57 = some 99 ∧ Tryz.prog.underlying 57 = some (.slice 99) ∧ aggOf Tryz.prog 57 = some false := ⟨by kernel_rfl, by kernel_rfl, by kernel_rfl⟩
theorem sz57 : sizeT Tryz.prog 57 = some 1 := by kernel_rfl
theorem dp57 (cs : List D) (off : Nat) : dpart Tryz.prog 57 cs off = cs[off]? := by simp only [dpart, ty57.2.2]
theorem ia57 (es : List D) (ki : IntKind) (i : Int) : dindexAddr Tryz.prog 57 (.list es) (.int ki i) = if 0 ≤ i ∧ i < es.length then (if (dcells (es.getD i.toNat .bad)).length = 2 then some (.fix (es.getD i.toNat .bad) 0) else none) else none := by
  simp only [dindexAddr, ty57.1, ty99.2]
theorem ir57 (k g n : Nat) (ag : Bool) (ki : IntKind) (i : Int) : dindexAddr Tryz.prog 57 (.row k g n 2 ag) (.int ki i) = if 0 ≤ i ∧ i < n then some (.ptr k g (i.toNat * 2)) else none := by
  simp only [dindexAddr, ty57.1, ty99.2, and_true]
theorem len57 (l : List D) : dlen Tryz.prog #[57] (.list l) = some (.int .i64 l.length) := by kernel_rfl
theorem lenr57 (k g n sz : Nat) (ag : Bool) : dlen Tryz.prog #[57] (.row k g n sz ag) = some (.int .i64 n) := by kernel_rfl
theorem sl57 (es : List D) (lo hi : Option D) : dslice Tryz.prog 57 (.list es) lo hi none = if szOk 2 es = true then (dopt hi es.length es.length).bind fun h => (dopt lo h 0).map fun l => .list ((es.take h).drop l) else none := by kernel_rfl
theorem bt57 : bytesT Tryz.prog 57 = false := by kernel_rfl
theorem ap57 (es fs : List D) (r : List Room) : dappend Tryz.prog #[57, 57] (.list es) (.list fs) r = if lenOk (es.length + fs.length) 32 = true ∧ szOk 2 fs = true ∧ szOk 2 es = true ∧ (r = [.full] ∨ r = [.own 99] ∨ r = [.fresh]) then some (.list (es ++ fs), 99) else none := by
  have : (Tryz.prog.info? 99).map (fun i => (infoOk i, i.size, i.bytes)) = some (true, 2, 32) := by kernel_rfl
  obtain ⟨i, hi, h⟩ := Option.map_eq_some_iff.1 this
  injection h with h1 h2
  injection h2 with h2 h3
  simp only [dappend, ty57.1, hi, h1, h2, h3, if_true, true_and]
theorem ra57 (fs : List D) (h : 0 < fs.length) : rowApp Tryz.prog [57, 57] (.list []) [.full] (.list fs) = if lenOk fs.length 32 = true ∧ szOk 2 fs = true then some (fs, 2, true) else none := by
  have : (Tryz.prog.info? 99).map (fun i => (infoOk i, i.size, i.bytes)) = some (true, 2, 32) := by kernel_rfl
  obtain ⟨i, hi, h'⟩ := Option.map_eq_some_iff.1 this
  injection h' with h1 h2
  injection h2 with h2 h3
  have ha : aggOf Tryz.prog 99 = some true := by kernel_rfl
  simp only [rowApp, ty57.1, hi, ha, h1, h2, h3, h, true_and, and_self, if_true]
theorem zr57 : zeroOf Tryz.prog 57 = some [.list []] := by kernel_rfl
theorem zrm57 : zrooms Tryz.prog 57 = [.full] := by kernel_rfl
theorem bs57_0 : dbuildSlice Tryz.prog 57 0 [] = some (.list []) := by kernel_rfl
theorem zr59 : zeroOf Tryz.prog 59 = some [.list []] := by kernel_rfl
theorem zrm59 : zrooms Tryz.prog 59 = [.full] := by kernel_rfl
theorem pr1_0 (rs : List Room) : putR rs 0 1 [] = [.no] ++ rs.drop 1 := rfl
theorem ty56 : elemT Tryz.prog 56 = some 59 ∧ Tryz.prog.underlying 56 = some (.slice 59) ∧ aggOf Tryz.prog 56 = some false := ⟨by kernel_rfl, by kernel_rfl, by kernel_rfl⟩
theorem sz56 : sizeT Tryz.prog 56 = some 1 := by kernel_rfl
theorem dp56 (cs : List D) (off : Nat) : dpart Tryz.prog 56 cs off = cs[off]? := by simp only [dpart, ty56.2.2]
theorem ia56 (es : List D) (ki : IntKind) (i : Int) : dindexAddr Tryz.prog 56 (.list es) (.int ki i) = if 0 ≤ i ∧ i < es.length then (if (dcells (es.getD i.toNat .bad)).length = 1 then some (.fix (es.getD i.toNat .bad) 0) else none) else none := by
  simp only [dindexAddr, ty56.1, ty59.2]
theorem ir56 (k g n : Nat) (ag : Bool) (ki : IntKind) (i : Int) : dindexAddr Tryz.prog 56 (.row k g n 1 ag) (.int ki i) = if 0 ≤ i ∧ i < n then some (.ptr k g (i.toNat * 1)) else none := by
  simp only [dindexAddr, ty56.1, ty59.2, and_true]
theorem len56 (l : List D) : dlen Tryz.prog #[56] (.list l) = some (.int .i64 l.length) := by kernel_rfl
theorem lenr56 (k g n sz : Nat) (ag : Bool) : dlen Tryz.prog #[56] (.row k g n sz ag) = some (.int .i64 n) := by kernel_rfl
theorem sl56 (es : List D) (lo hi : Option D) : dslice Tryz.prog 56 (.list es) lo hi none = if szOk 1 es = true then (dopt hi es.length es.length).bind fun h => (dopt lo h 0).map fun l => .list ((es.take h).drop l) else none := by kernel_rfl
theorem bt56 : bytesT Tryz.prog 56 = false := by kernel_rfl
theorem ap56 (es fs : List D) (r : List Room) : dappend Tryz.prog #[56, 56] (.list es) (.list fs) r = if lenOk (es.length + fs.length) 24 = true ∧ szOk 1 fs = true ∧ szOk 1 es = true ∧ (r = [.full] ∨ r = [.own 59] ∨ r = [.fresh]) then some (.list (es ++ fs), 59) else none := by
  have : (Tryz.prog.info? 59).map (fun i => (infoOk i, i.size, i.bytes)) = some (true, 1, 24) := by kernel_rfl
  obtain ⟨i, hi, h⟩ := Option.map_eq_some_iff.1 this
  injection h with h1 h2
  injection h2 with h2 h3
  simp only [dappend, ty56.1, hi, h1, h2, h3, if_true, true_and]
theorem ra56 (fs : List D) (h : 0 < fs.length) : rowApp Tryz.prog [56, 56] (.list []) [.full] (.list fs) = if lenOk fs.length 24 = true ∧ szOk 1 fs = true then some (fs, 1, true) else none := by
  have : (Tryz.prog.info? 59).map (fun i => (infoOk i, i.size, i.bytes)) = some (true, 1, 24) := by kernel_rfl
  obtain ⟨i, hi, h'⟩ := Option.map_eq_some_iff.1 this
  injection h' with h1 h2
  injection h2 with h2 h3
  have ha : aggOf Tryz.prog 59 = some true := by kernel_rfl
  simp only [rowApp, ty56.1, hi, ha, h1, h2, h3, h, true_and, and_self, if_true]
theorem zr56 : zeroOf Tryz.prog 56 = some [.list []] := by kernel_rfl
theorem zrm56 : zrooms Tryz.prog 56 = [.full] := by kernel_rfl
theorem bs56_0 : dbuildSlice Tryz.prog 56 0 [] = some (.list []) := by kernel_rfl
theorem zr104 : zeroOf Tryz.prog 104 = some [.int .i64 0, .int .i64 0, .str [], .str [], .int .i64 0, .str [], .bool false, .int .i64 0, .int .i64 0, .int .i64 0, .list []] := by kernel_rfl
theorem zrm104 : zrooms Tryz.prog 104 = [.no, .no, .no, .no, .no, .no, .no, .no, .no, .no, .full] := by kernel_rfl
theorem pr11_0 (rs : List Room) : putR rs 0 11 [] = [.no, .no, .no, .no, .no, .no, .no, .no, .no, .no, .no] ++ rs.drop 11 := rfl
theorem ty43 : elemT Tryz.prog 43 = some 3 ∧ Tryz.prog.underlying 43 = some (.slice 3) ∧ aggOf Tryz.prog 43 = some false := ⟨by kernel_rfl, by kernel_rfl, by kernel_rfl⟩
theorem sz43 : sizeT Tryz.prog 43 = some 1 := by kernel_rfl
theorem dp43 (cs : List D) (off : Nat) : dpart Tryz.prog 43 cs off = cs[off]? := by simp only [dpart, ty43.2.2]
theorem ia43 (es : List D) (ki : IntKind) (i : Int) : dindexAddr Tryz.prog 43 (.list es) (.int ki i) = if 0 ≤ i ∧ i < es.length then (if (dcells (es.getD i.toNat .bad)).length = 1 then some (.fix (es.getD i.toNat .bad) 0) else none) else none := by
  simp only [dindexAddr, ty43.1, sz3]
theorem ir43 (k g n : Nat) (ag : Bool) (ki : IntKind) (i : Int) : dindexAddr Tryz.prog 43 (.row k g n 1 ag) (.int ki i) = if 0 ≤ i ∧ i < n then some (.ptr k g (i.toNat * 1)) else none := by
  simp only [dindexAddr, ty43.1, sz3, and_true]
theorem len43 (l : List D) : dlen Tryz.prog #[43] (.list l) = some (.int .i64 l.length) := by kernel_rfl
theorem lenr43 (k g n sz : Nat) (ag : Bool) : dlen Tryz.prog #[43] (.row k g n sz ag) = some (.int .i64 n) := by kernel_rfl
theorem sl43 (es : List D) (lo hi : Option D) : dslice Tryz.prog 43 (.list es) lo hi none = if szOk 1 es = true then (dopt hi es.length es.length).bind fun h => (dopt lo h 0).map fun l => .list ((es.take h).drop l) else none := by kernel_rfl
theorem bt43 : bytesT Tryz.prog 43 = false := by kernel_rfl
theorem ap43 (es fs : List D) (r : List Room) : dappend Tryz.prog #[43, 43] (.list es) (.list fs) r = if lenOk (es.length + fs.length) 8 = true ∧ szOk 1 fs = true ∧ szOk 1 es = true ∧ (r = [.full] ∨ r = [.own 3] ∨ r = [.fresh]) then some (.list (es ++ fs), 3) else none := by
  have : (Tryz.prog.info? 3).map (fun i => (infoOk i, i.size, i.bytes)) = some (true, 1, 8) := by kernel_rfl
  obtain ⟨i, hi, h⟩ := Option.map_eq_some_iff.1 this
  injection h with h1 h2
  injection h2 with h2 h3
  simp only [dappend, ty43.1, hi, h1, h2, h3, if_true, true_and]
theorem ra43 (fs : List D) (h : 0 < fs.length) : rowApp Tryz.prog [43, 43] (.list []) [.full] (.list fs) = if lenOk fs.length 8 = true ∧ szOk 1 fs = true then some (fs, 1, false) else none := by
  have : (Tryz.prog.info? 3).map (fun i => (infoOk i, i.size, i.bytes)) = some (true, 1, 8) := by kernel_rfl
  obtain ⟨i, hi, h'⟩ := Option.map_eq_some_iff.1 this
  injection h' with h1 h2
  injection h2 with h2 h3
  have ha : aggOf Tryz.prog 3 = some false := by kernel_rfl
  simp only [rowApp, ty43.1, hi, ha, h1, h2, h3, h, true_and, and_self, if_true]
theorem zr43 : zeroOf Tryz.prog 43 = some [.list []] := by kernel_rfl
theorem zrm43 : zrooms Tryz.prog 43 = [.full] := by kernel_rfl
theorem bs43_0 : dbuildSlice Tryz.prog 43 0 [] = some (.list []) := by kernel_rfl
theorem ty23 : elemT Tryz.prog 23 = some 56 ∧ Tryz.prog.underlying 23 = some (.slice 56) ∧ aggOf Tryz.prog 23 = some false := ⟨by kernel_rfl, by kernel_rfl, by kernel_rfl⟩
theorem sz23 : sizeT Tryz.prog 23 = some 1 := by kernel_rfl
theorem dp23 (cs : List D) (off : Nat) : dpart Tryz.prog 23 cs off = cs[off]? := by simp only [dpart, ty23.2.2]
theorem ia23 (es : List D) (ki : IntKind) (i : Int) : dindexAddr Tryz.prog 23 (.list es) (.int ki i) = if 0 ≤ i ∧ i < es.length then (if (dcells (es.getD i.toNat .bad)).length = 1 then some (.fix (es.getD i.toNat .bad) 0) else none) else none := by
  simp only [dindexAddr, ty23.1, sz56]
theorem ir23 (k g n : Nat) (ag : Bool) (ki : IntKind) (i : Int) : dindexAddr Tryz.prog 23 (.row k g n 1 ag) (.int ki i) = if 0 ≤ i ∧ i < n then some (.ptr k g (i.toNat * 1)) else none := by
  simp only [dindexAddr, ty23.1, sz56, and_true]
theorem len23 (l : List D) : dlen Tryz.prog #[23] (.list l) = some (.int .i64 l.length) := by kernel_rfl
theorem lenr23 (k g n sz : Nat) (ag : Bool) : dlen Tryz.prog #[23] (.row k g n sz ag) = some (.int .i64 n) := by kernel_rfl
theorem sl23 (es : List D) (lo hi : Option D) : dslice Tryz.prog 23 (.list es) lo hi none = if szOk 1 es = true then (dopt hi es.length es.length).bind fun h => (dopt lo h 0).map fun l => .list ((es.take h).drop l) else none := by kernel_rfl
theorem bt23 : bytesT Tryz.prog 23 = false := by kernel_rfl
theorem ap23 (es fs : List D) (r : List Room) : dappend Tryz.prog #[23, 23] (.list es) (.list fs) r = if lenOk (es.length + fs.length) 24 = true ∧ szOk 1 fs = true ∧ szOk 1 es = true ∧ (r = [.full] ∨ r = [.own 56] ∨ r = [.fresh]) then some (.list (es ++ fs), 56) else none := by
  have : (Tryz.prog.info? 56).map (fun i => (infoOk i, i.size, i.bytes)) = some (true, 1, 24) := by kernel_rfl
  obtain ⟨i, hi, h⟩ := Option.map_eq_some_iff.1 this
  injection h with h1 h2
  injection h2 with h2 h3
  simp only [dappend, ty23.1, hi, h1, h2, h3, if_true, true_and]
theorem ra23 (fs : List D) (h : 0 < fs.length) : rowApp Tryz.prog [23, 23] (.list []) [.full] (.list fs) = if lenOk fs.length 24 = true ∧ szOk 1 fs = true then some (fs, 1, false) else none := by
  have : (Tryz.prog.info? 56).map (fun i => (infoOk i, i.size, i.bytes)) = some (true, 1, 24) := by kernel_rfl
  obtain ⟨i, hi, h'⟩ := Option.map_eq_some_iff.1 this
  injection h' with h1 h2
  injection h2 with h2 h3
  have ha : aggOf Tryz.prog 56 = some false := by kernel_rfl
  simp only [rowApp, ty23.1, hi, ha, h1, h2, h3, h, true_and, and_self, if_true]
theorem zr23 : zeroOf Tryz.prog 23 = some [.list []] := by kernel_rfl
theorem zrm23 : zrooms Tryz.prog 23 = [.full] := by kernel_rfl
theorem bs23_0 : dbuildSlice Tryz.prog 23 0 [] = some (.list []) := by kernel_rfl
theorem ty36 : aggOf Tryz.prog 36 = some true ∧ sizeT Tryz.prog 36 = some 5 := ⟨by kernel_rfl, by kernel_rfl⟩
theorem dp36 (x0 x1 x2 x3 x4 : D) : dpart Tryz.prog 36 [x0, x1, x2, x3, x4] 0 = some (.agg [x0, x1, x2, x3, x4]) := by simp only [dpart, ty36.1, ty36.2]; rfl
theorem fa36_0 (d : D) (off : Nat) : dfieldAddr Tryz.prog 36 (.fix d off) 0 = some (.fix d (off + 0)) := by kernel_rfl
theorem fp36_0 (k g off : Nat) : dfieldAddr Tryz.prog 36 (.ptr k g off) 0 = some (.ptr k g (off + 0)) := by kernel_rfl
theorem df36_0 (x0 x1 x2 x3 x4 : D) : dfield Tryz.prog 36 (.agg [x0, x1, x2, x3, x4]) 0 = some x0 := by kernel_rfl
theorem ty127 : aggOf Tryz.prog 127 = some true ∧ sizeT Tryz.prog 127 = some 7 := ⟨by kernel_rfl, by kernel_rfl⟩
theorem dp127 (x0 x1 x2 x3 x4 x5 x6 : D) : dpart Tryz.prog 127 [x0, x1, x2, x3, x4, x5, x6] 0 = some (.agg [x0, x1, x2, x3, x4, x5, x6]) := by simp only [dpart, ty127.1, ty127.2]; rfl
theorem fa127_0 (d : D) (off : Nat) : dfieldAddr Tryz.prog 127 (.fix d off) 0 = some (.fix d (off + 0)) := by kernel_rfl
theorem fp127_0 (k g off : Nat) : dfieldAddr Tryz.prog 127 (.ptr k g off) 0 = some (.ptr k g (off + 0)) := by kernel_rfl
theorem df127_0 (x0 x1 x2 x3 x4 x5 x6 : D) : dfield Tryz.prog 127 (.agg [x0, x1, x2, x3, x4, x5, x6]) 0 = some x0 := by kernel_rfl
theorem fa127_1 (d : D) (off : Nat) : dfieldAddr Tryz.prog 127 (.fix d off) 1 = some (.fix d (off + 1)) := by kernel_rfl
theorem fp127_1 (k g off : Nat) : dfieldAddr Tryz.prog 127 (.ptr k g off) 1 = some (.ptr k g (off + 1)) := by kernel_rfl
theorem df127_1 (x0 x1 x2 x3 x4 x5 x6 : D) : dfield Tryz.prog 127 (.agg [x0, x1, x2, x3, x4, x5, x6]) 1 = some x1 := by kernel_rfl
theorem fa127_2 (d : D) (off : Nat) : dfieldAddr Tryz.prog 127 (.fix d off) 2 = some (.fix d (off + 2)) := by kernel_rfl
theorem fp127_2 (k g off : Nat) : dfieldAddr Tryz.prog 127 (.ptr k g off) 2 = some (.ptr k g (off + 2)) := by kernel_rfl
theorem df127_2 (x0 x1 x2 x3 x4 x5 x6 : D) : dfield Tryz.prog 127 (.agg [x0, x1, x2, x3, x4, x5, x6]) 2 = some x2 := by kernel_rfl
theorem fa127_3 (d : D) (off : Nat) : dfieldAddr Tryz.prog 127 (.fix d off) 3 = some (.fix d (off + 3)) := by kernel_rfl
theorem fp127_3 (k g off : Nat) : dfieldAddr Tryz.prog 127 (.ptr k g off) 3 = some (.ptr k g (off + 3)) := by kernel_rfl
theorem df127_3 (x0 x1 x2 x3 x4 x5 x6 : D) : dfield Tryz.prog 127 (.agg [x0, x1, x2, x3, x4, x5, x6]) 3 = some x3 := by kernel_rfl
theorem fa127_4 (d : D) (off : Nat) : dfieldAddr Tryz.prog 127 (.fix d off) 4 = some (.fix d (off + 4)) := by kernel_rfl
theorem fp127_4 (k g off : Nat) : dfieldAddr Tryz.prog 127 (.ptr k g off) 4 = some (.ptr k g (off + 4)) := by kernel_rfl
theorem df127_4 (x0 x1 x2 x3 x4 x5 x6 : D) : dfield Tryz.prog 127 (.agg [x0, x1, x2, x3, x4, x5, x6]) 4 = some (.agg [x4, x5, x6]) := by kernel_rfl
theorem dp102_4_7 (x0 x1 x2 x3 x4 x5 x6 : D) : dpart Tryz.prog 102 [x0, x1, x2, x3, x4, x5, x6] 4 = some (.agg [x4, x5, x6]) := by simp only [dpart, ty102.1, ty102.2]; rfl
theorem zr127 : zeroOf Tryz.prog 127 = some [.int .i64 0, .bool false, .str [], .str [], .int .i64 0, .str [], .bool false] := by kernel_rfl
theorem zrm127 : zrooms Tryz.prog 127 = [.no, .no, .no, .no, .no, .no, .no] := by kernel_rfl
theorem pr7_0 (rs : List Room) : putR rs 0 7 [] = [.no, .no, .no, .no, .no, .no, .no] ++ rs.drop 7 := rfl
theorem ty31 : elemT Tryz.prog 31 = some 127 ∧ Tryz.prog.underlying 31 = some (.slice 127) ∧ aggOf Tryz.prog 31 = some false := ⟨by kernel_rfl, by kernel_rfl, by kernel_rfl⟩
theorem sz31 : sizeT Tryz.prog 31 = some 1 := by kernel_rfl
theorem dp31 (cs : List D) (off : Nat) : dpart Tryz.prog 31 cs off = cs[off]? := by simp only [dpart, ty31.2.2]
theorem ia31 (es : List D) (ki : IntKind) (i : Int) : dindexAddr Tryz.prog 31 (.list es) (.int ki i) = if 0 ≤ i ∧ i < es.length then (if (dcells (es.getD i.toNat .bad)).length = 7 then some (.fix (es.getD i.toNat .bad) 0) else none) else none := by
  simp only [dindexAddr, ty31.1, ty127.2]
theorem ir31 (k g n : Nat) (ag : Bool) (ki : IntKind) (i : Int) : dindexAddr Tryz.prog 31 (.row k g n 7 ag) (.int ki i) = if 0 ≤ i ∧ i < n then some (.ptr k g (i.toNat * 7)) else none := by
  simp only [dindexAddr, ty31.1, ty127.2, and_true]
theorem len31 (l : List D) : dlen Tryz.prog #[31] (.list l) = some (.int .i64 l.length) := by kernel_rfl
theorem lenr31 (k g n sz : Nat) (ag : Bool) : dlen Tryz.prog #[31] (.row k g n sz ag) = some (.int .i64 n) := by kernel_rfl
theorem sl31 (es : List D) (lo hi : Option D) : dslice Tryz.prog 31 (.list es) lo hi none = if szOk 7 es = true then (dopt hi es.length es.length).bind fun h => (dopt lo h 0).map fun l => .list ((es.take h).drop l) else none := by kernel_rfl
theorem bt31 : bytesT Tryz.prog 31 = false := by kernel_rfl
theorem ap31 (es fs : List D) (r : List Room) : dappend Tryz.prog #[31, 31] (.list es) (.list fs) r = if lenOk (es.length + fs.length) 80 = true ∧ szOk 7 fs = true ∧ szOk 7 es = true ∧ (r = [.full] ∨ r = [.own 127] ∨ r = [.fresh]) then some (.list (es ++ fs), 127) else none := by
  have : (Tryz.prog.info? 127).map (fun i => (infoOk i, i.size, i.bytes)) = some (true, 7, 80) := by kernel_rfl
  obtain ⟨i, hi, h⟩ := Option.map_eq_some_iff.1 this
  injection h with h1 h2
  injection h2 with h2 h3
  simp only [dappend, ty31.1, hi, h1, h2, h3, if_true, true_and]
theorem ra31 (fs : List D) (h : 0 < fs.length) : rowApp Tryz.prog [31, 31] (.list []) [.full] (.list fs) = if lenOk fs.length 80 = true ∧ szOk 7 fs = true then some (fs, 7, true) else none := by
  have : (Tryz.prog.info? 127).map (fun i => (infoOk i, i.size, i.bytes)) = some (true, 7, 80) := by kernel_rfl
  obtain ⟨i, hi, h'⟩ := Option.map_eq_some_iff.1 this
  injection h' with h1 h2
  injection h2 with h2 h3
  have ha : aggOf Tryz.prog 127 = some true := by kernel_rfl
  simp only [rowApp, ty31.1, hi, ha, h1, h2, h3, h, true_and, and_self, if_true]
theorem zr31 : zeroOf Tryz.prog 31 = some [.list []] := by kernel_rfl
theorem zrm31 : zrooms Tryz.prog 31 = [.full] := by kernel_rfl
theorem bs31_0 : dbuildSlice Tryz.prog 31 0 [] = some (.list []) := by kernel_rfl
theorem fa36_1 (d : D) (off : Nat) : dfieldAddr Tryz.prog 36 (.fix d off) 1 = some (.fix d (off + 1)) := by kernel_rfl
theorem fp36_1 (k g off : Nat) : dfieldAddr Tryz.prog 36 (.ptr k g off) 1 = some (.ptr k g (off + 1)) := by kernel_rfl
theorem df36_1 (x0 x1 x2 x3 x4 : D) : dfield Tryz.prog 36 (.agg [x0, x1, x2, x3, x4]) 1 = some x1 := by kernel_rfl
theorem ty63 : aggOf Tryz.prog 63 = some true ∧ sizeT Tryz.prog 63 = some 3 := ⟨by kernel_rfl, by kernel_rfl⟩
theorem dp63 (x0 x1 x2 : D) : dpart Tryz.prog 63 [x0, x1, x2] 0 = some (.agg [x0, x1, x2]) := by simp only [dpart, ty63.1, ty63.2]; rfl
theorem fa63_0 (d : D) (off : Nat) : dfieldAddr Tryz.prog 63 (.fix d off) 0 = some (.fix d (off + 0)) := by kernel_rfl
theorem fp63_0 (k g off : Nat) : dfieldAddr Tryz.prog 63 (.ptr k g off) 0 = some (.ptr k g (off + 0)) := by kernel_rfl
theorem df63_0 (x0 x1 x2 : D) : dfield Tryz.prog 63 (.agg [x0, x1, x2]) 0 = some x0 := by kernel_rfl
theorem fa63_1 (d : D) (off : Nat) : dfieldAddr Tryz.prog 63 (.fix d off) 1 = some (.fix d (off + 1)) := by kernel_rfl
theorem fp63_1 (k g off : Nat) : dfieldAddr Tryz.prog 63 (.ptr k g off) 1 = some (.ptr k g (off + 1)) := by kernel_rfl
theorem df63_1 (x0 x1 x2 : D) : dfield Tryz.prog 63 (.agg [x0, x1, x2]) 1 = some x1 := by kernel_rfl
theorem ty116 : aggOf Tryz.prog 116 = some true ∧ sizeT Tryz.prog 116 = some 2 := ⟨by kernel_rfl, by kernel_rfl⟩
theorem dp116 (x0 x1 : D) : dpart Tryz.prog 116 [x0, x1] 0 = some (.agg [x0, x1]) := by simp only [dpart, ty116.1, ty116.2]; rfl
theorem fa116_0 (d : D) (off : Nat) : dfieldAddr Tryz.prog 116 (.fix d off) 0 = some (.fix d (off + 0)) := by kernel_rfl
theorem fp116_0 (k g off : Nat) : dfieldAddr Tryz.prog 116 (.ptr k g off) 0 = some (.ptr k g (off + 0)) := by kernel_rfl
theorem df116_0 (x0 x1 : D) : dfield Tryz.prog 116 (.agg [x0, x1]) 0 = some x0 := by kernel_rfl
theorem fa116_1 (d : D) (off : Nat) : dfieldAddr Tryz.prog 116 (.fix d off) 1 = some (.fix d (off + 1)) := by kernel_rfl
theorem fp116_1 (k g off : Nat) : dfieldAddr Tryz.prog 116 (.ptr k g off) 1 = some (.ptr k g (off + 1)) := by kernel_rfl
theorem df116_1 (x0 x1 : D) : dfield Tryz.prog 116 (.agg [x0, x1]) 1 = some x1 := by kernel_rfl
theorem ty119 : aggOf Tryz.prog 119 = some true ∧ sizeT Tryz.prog 119 = some 3 := ⟨by kernel_rfl, by kernel_rfl⟩
theorem dp119 (x0 x1 x2 : D) : dpart Tryz.prog 119 [x0, x1, x2] 0 = some (.agg [x0, x1, x2]) := by simp only [dpart, ty119.1, ty119.2]; rfl
theorem fa119_0 (d : D) (off : Nat) : dfieldAddr Tryz.prog 119 (.fix d off) 0 = some (.fix d (off + 0)) := by kernel_rfl
theorem fp119_0 (k g off : Nat) : dfieldAddr Tryz.prog 119 (.ptr k g off) 0 = some (.ptr k g (off + 0)) := by kernel_rfl
theorem df119_0 (x0 x1 x2 : D) : dfield Tryz.prog 119 (.agg [x0, x1, x2]) 0 = some x0 := by kernel_rfl
theorem fa119_1 (d : D) (off : Nat) : dfieldAddr Tryz.prog 119 (.fix d off) 1 = some (.fix d (off + 1)) := by kernel_rfl
theorem fp119_1 (k g off : Nat) : dfieldAddr Tryz.prog 119 (.ptr k g off) 1 = some (.ptr k g (off + 1)) := by kernel_rfl
theorem df119_1 (x0 x1 x2 : D) : dfield Tryz.prog 119 (.agg [x0, x1, x2]) 1 = some x1 := by kernel_rfl
theorem fa119_2 (d : D) (off : Nat) : dfieldAddr Tryz.prog 119 (.fix d off) 2 = some (.fix d (off + 2)) := by kernel_rfl
theorem fp119_2 (k g off : Nat) : dfieldAddr Tryz.prog 119 (.ptr k g off) 2 = some (.ptr k g (off + 2)) := by kernel_rfl
theorem df119_2 (x0 x1 x2 : D) : dfield Tryz.prog 119 (.agg [x0, x1, x2]) 2 = some x2 := by kernel_rfl
theorem zr119 : zeroOf Tryz.prog 119 = some [.int .i64 0, .int .i64 0, .list []] := by kernel_rfl
theorem zrm119 : zrooms Tryz.prog 119 = [.no, .no, .full] := by kernel_rfl
theorem ty114 : elemT Tryz.prog 114 = some 119 ∧ Tryz.prog.underlying 114 = some (.slice 119) ∧ aggOf Tryz.prog 114 = some false := ⟨by kernel_rfl, by kernel_rfl, by kernel_rfl⟩
theorem sz114 : sizeT Tryz.prog 114 = some 1 := by kernel_rfl
theorem dp114 (cs : List D) (off : Nat) : dpart Tryz.prog 114 cs off = cs[off]? := by simp only [dpart, ty114.2.2]
theorem ia114 (es : List D) (ki : IntKind) (i : Int) : dindexAddr Tryz.prog 114 (.list es) (.int ki i) = if 0 ≤ i ∧ i < es.length then (if (dcells (es.getD i.toNat .bad)).length = 3 then some (.fix (es.getD i.toNat .bad) 0) else none) else none := by
  simp only [dindexAddr, ty114.1, ty119.2]
theorem ir114 (k g n : Nat) (ag : Bool) (ki : IntKind) (i : Int) : dindexAddr Tryz.prog 114 (.row k g n 3 ag) (.int ki i) = if 0 ≤ i ∧ i < n then some (.ptr k g (i.toNat * 3)) else none := by
  simp only [dindexAddr, ty114.1, ty119.2, and_true]
theorem len114 (l : List D) : dlen Tryz.prog #[114] (.list l) = some (.int .i64 l.length) := by kernel_rfl
theorem lenr114 (k g n sz : Nat) (ag : Bool) : dlen Tryz.prog #[114] (.row k g n sz ag) = some (.int .i64 n) := by kernel_rfl
theorem sl114 (es : List D) (lo hi : Option D) : dslice Tryz.prog 114 (.list es) lo hi none = if szOk 3 es = true then (dopt hi es.length es.length).bind fun h => (dopt lo h 0).map fun l => .list ((es.take h).drop l) else none := by kernel_rfl
theorem bt114 : bytesT Tryz.prog 114 = false := by kernel_rfl
theorem ap114 (es fs : List D) (r : List Room) : dappend Tryz.prog #[114, 114] (.list es) (.list fs) r = if lenOk (es.length + fs.length) 40 = true ∧ szOk 3 fs = true ∧ szOk 3 es = true ∧ (r = [.full] ∨ r = [.own 119] ∨ r = [.fresh]) then some (.list (es ++ fs), 119) else none := by
  have : (Tryz.prog.info? 119).map (fun i => (infoOk i, i.size, i.bytes)) = some (true, 3, 40) := by kernel_rfl
  obtain ⟨i, hi, h⟩ := Option.map_eq_some_iff.1 this
  injection h with h1 h2
  injection h2 with h2 h3
  simp only [dappend, ty114.1, hi, h1, h2, h3, if_true, true_and]
theorem ra114 (fs : List D) (h : 0 < fs.length) : rowApp Tryz.prog [114, 114] (.list []) [.full] (.list fs) = if lenOk fs.length 40 = true ∧ szOk 3 fs = true then some (fs, 3, true) else none := by
  have : (Tryz.prog.info? 119).map (fun i => (infoOk i, i.size, i.bytes)) = some (true, 3, 40) := by kernel_rfl
  obtain ⟨i, hi, h'⟩ := Option.map_eq_some_iff.1 this
  injection h' with h1 h2
  injection h2 with h2 h3
  have ha : aggOf Tryz.prog 119 = some true := by kernel_rfl
  simp only [rowApp, ty114.1, hi, ha, h1, h2, h3, h, true_and, and_self, if_true]
theorem zr114 : zeroOf Tryz.prog 114 = some [.list []] := by kernel_rfl
theorem zrm114 : zrooms Tryz.prog 114 = [.full] := by kernel_rfl
theorem bs114_0 : dbuildSlice Tryz.prog 114 0 [] = some (.list []) := by kernel_rfl
theorem zr116 : zeroOf Tryz.prog 116 = some [.int .i64 0, .list []] := by kernel_rfl
theorem zrm116 : zrooms Tryz.prog 116 = [.no, .full] := by kernel_rfl
theorem ty61 : elemT Tryz.prog 61 = some 116 ∧ Tryz.prog.underlying 61 = some (.slice 116) ∧ aggOf Tryz.prog 61 = some false := ⟨by kernel_rfl, by kernel_rfl, by kernel_rfl⟩
theorem sz61 : sizeT Tryz.prog 61 = some 1 := by kernel_rfl
theorem dp61 (cs : List D) (off : Nat) : dpart Tryz.prog 61 cs off = cs[off]? := by simp only [dpart, ty61.2.2]
theorem ia61 (es : List D) (ki : IntKind) (i : Int) : dindexAddr Tryz.prog 61 (.list es) (.int ki i) = if 0 ≤ i ∧ i < es.length then (if (dcells (es.getD i.toNat .bad)).length = 2 then some (.fix (es.getD i.toNat .bad) 0) else none) else none := by
  simp only [dindexAddr, ty61.1, ty116.2]
theorem ir61 (k g n : Nat) (ag : Bool) (ki : IntKind) (i : Int) : dindexAddr Tryz.prog 61 (.row k g n 2 ag) (.int ki i) = if 0 ≤ i ∧ i < n then some (.ptr k g (i.toNat * 2)) else none := by
  simp only [dindexAddr, ty61.1, ty116.2, and_true]
theorem len61 (l : List D) : dlen Tryz.prog #[61] (.list l) = some (.int .i64 l.length) := by kernel_rfl
theorem lenr61 (k g n sz : Nat) (ag : Bool) : dlen Tryz.prog #[61] (.row k g n sz ag) = some (.int .i64 n) := by kernel_rfl
theorem sl61 (es : List D) (lo hi : Option D) : dslice Tryz.prog 61 (.list es) lo hi none = if szOk 2 es = true then (dopt hi es.length es.length).bind fun h => (dopt lo h 0).map fun l => .list ((es.take h).drop l) else none := by kernel_rfl
theorem bt61 : bytesT Tryz.prog 61 = false := by kernel_rfl
theorem ap61 (es fs : List D) (r : List Room) : dappend Tryz.prog #[61, 61] (.list es) (.list fs) r = if lenOk (es.length + fs.length) 32 = true ∧ szOk 2 fs = true ∧ szOk 2 es = true ∧ (r = [.full] ∨ r = [.own 116] ∨ r = [.fresh]) then some (.list (es ++ fs), 116) else none := by
  have : (Tryz.prog.info? 116).map (fun i => (infoOk i, i.size, i.bytes)) = some (true, 2, 32) := by kernel_rfl
  obtain ⟨i, hi, h⟩ := Option.map_eq_some_iff.1 this
  injection h with h1 h2
  injection h2 with h2 h3
  simp only [dappend, ty61.1, hi, h1, h2, h3, if_true, true_and]
theorem ra61 (fs : List D) (h : 0 < fs.length) : rowApp Tryz.prog [61, 61] (.list []) [.full] (.list fs) = if lenOk fs.length 32 = true ∧ szOk 2 fs = true then some (fs, 2, true) else none := by
  have : (Tryz.prog.info? 116).map (fun i => (infoOk i, i.size, i.bytes)) = some (true, 2, 32) := by kernel_rfl
  obtain ⟨i, hi, h'⟩ := Option.map_eq_some_iff.1 this
  injection h' with h1 h2
  injection h2 with h2 h3
  have ha : aggOf Tryz.prog 116 = some true := by kernel_rfl
  simp only [rowApp, ty61.1, hi, ha, h1, h2, h3, h, true_and, and_self, if_true]
theorem zr61 : zeroOf Tryz.prog 61 = some [.list []] := by kernel_rfl
theorem zrm61 : zrooms Tryz.prog 61 = [.full] := by kernel_rfl
theorem bs61_0 : dbuildSlice Tryz.prog 61 0 [] = some (.list []) := by kernel_rfl
theorem fa63_2 (d : D) (off : Nat) : dfieldAddr Tryz.prog 63 (.fix d off) 2 = some (.fix d (off + 2)) := by kernel_rfl
theorem fp63_2 (k g off : Nat) : dfieldAddr Tryz.prog 63 (.ptr k g off) 2 = some (.ptr k g (off + 2)) := by kernel_rfl
theorem df63_2 (x0 x1 x2 : D) : dfield Tryz.prog 63 (.agg [x0, x1, x2]) 2 = some x2 := by kernel_rfl
theorem zr63 : zeroOf Tryz.prog 63 = some [.int .i64 0, .list [], .str []] := by kernel_rfl
theorem zrm63 : zrooms Tryz.prog 63 = [.no, .full, .no] := by kernel_rfl
theorem ty32 : elemT Tryz.prog 32 = some 63 ∧ Tryz.prog.underlying 32 = some (.slice 63) ∧ aggOf Tryz.prog 32 = some false := ⟨by kernel_rfl, by kernel_rfl, by kernel_rfl⟩
theorem sz32 : sizeT Tryz.prog 32 = some 1 := by kernel_rfl
theorem dp32 (cs : List D) (off : Nat) : dpart Tryz.prog 32 cs off = cs[off]? := by simp only [dpart, ty32.2.2]
theorem ia32 (es : List D) (ki : IntKind) (i : Int) : dindexAddr Tryz.prog 32 (.list es) (.int ki i) = if 0 ≤ i ∧ i < es.length then (if (dcells (es.getD i.toNat .bad)).length = 3 then some (.fix (es.getD i.toNat .bad) 0) else none) else none := by
  simp only [dindexAddr, ty32.1, ty63.2]
theorem ir32 (k g n : Nat) (ag : Bool) (ki : IntKind) (i : Int) : dindexAddr Tryz.prog 32 (.row k g n 3 ag) (.int ki i) = if 0 ≤ i ∧ i < n then some (.ptr k g (i.toNat * 3)) else none := by
  simp only [dindexAddr, ty32.1, ty63.2, and_true]
theorem len32 (l : List D) : dlen Tryz.prog #[32] (.list l) = some (.int .i64 l.length) := by kernel_rfl
theorem lenr32 (k g n sz : Nat) (ag : Bool) : dlen Tryz.prog #[32] (.row k g n sz ag) = some (.int .i64 n) := by kernel_rfl
theorem sl32 (es : List D) (lo hi : Option D) : dslice Tryz.prog 32 (.list es) lo hi none = if szOk 3 es = true then (dopt hi es.length es.length).bind fun h => (dopt lo h 0).map fun l => .list ((es.take h).drop l) else none := by kernel_rfl
theorem bt32 : bytesT Tryz.prog 32 = false := by kernel_rfl
theorem ap32 (es fs : List D) (r : List Room) : dappend Tryz.prog #[32, 32] (.list es) (.list fs) r = if lenOk (es.length + fs.length) 48 = true ∧ szOk 3 fs = true ∧ szOk 3 es = true ∧ (r = [.full] ∨ r = [.own 63] ∨ r = [.fresh]) then some (.list (es ++ fs), 63) else none := by
  have : (Tryz.prog.info? 63).map (fun i => (infoOk i, i.size, i.bytes)) = some (true, 3, 48) := by kernel_rfl
  obtain ⟨i, hi, h⟩ := Option.map_eq_some_iff.1 this
  injection h with h1 h2
  injection h2 with h2 h3
  simp only [dappend, ty32.1, hi, h1, h2, h3, if_true, true_and]
theorem ra32 (fs : List D) (h : 0 < fs.length) : rowApp Tryz.prog [32, 32] (.list []) [.full] (.list fs) = if lenOk fs.length 48 = true ∧ szOk 3 fs = true then some (fs, 3, true) else none := by
  have : (Tryz.prog.info? 63).map (fun i => (infoOk i, i.size, i.bytes)) = some (true, 3, 48) := by kernel_rfl
  obtain ⟨i, hi, h'⟩ := Option.map_eq_some_iff.1 this
  injection h' with h1 h2
  injection h2 with h2 h3
  have ha : aggOf Tryz.prog 63 = some true := by kernel_rfl
  simp only [rowApp, ty32.1, hi, ha, h1, h2, h3, h, true_and, and_self, if_true]
theorem zr32 : zeroOf Tryz.prog 32 = some [.list []] := by kernel_rfl
theorem zrm32 : zrooms Tryz.prog 32 = [.full] := by kernel_rfl
theorem bs32_0 : dbuildSlice Tryz.prog 32 0 [] = some (.list []) := by kernel_rfl
theorem fa36_2 (d : D) (off : Nat) : dfieldAddr Tryz.prog 36 (.fix d off) 2 = some (.fix d (off + 2)) := by kernel_rfl
theorem fp36_2 (k g off : Nat) : dfieldAddr Tryz.prog 36 (.ptr k g off) 2 = some (.ptr k g (off + 2)) := by kernel_rfl
theorem df36_2 (x0 x1 x2 x3 x4 : D) : dfield Tryz.prog 36 (.agg [x0, x1, x2, x3, x4]) 2 = some x2 := by kernel_rfl
theorem ty91 : aggOf Tryz.prog 91 = some true ∧ sizeT Tryz.prog 91 = some 3 := ⟨by kernel_rfl, by kernel_rfl⟩
theorem dp91 (x0 x1 x2 : D) : dpart Tryz.prog 91 [x0, x1, x2] 0 = some (.agg [x0, x1, x2]) := by simp only [dpart, ty91.1, ty91.2]; rfl
theorem fa91_0 (d : D) (off : Nat) : dfieldAddr Tryz.prog 91 (.fix d off) 0 = some (.fix d (off + 0)) := by kernel_rfl
theorem fp91_0 (k g off : Nat) : dfieldAddr Tryz.prog 91 (.ptr k g off) 0 = some (.ptr k g (off + 0)) := by kernel_rfl
theorem df91_0 (x0 x1 x2 : D) : dfield Tryz.prog 91 (.agg [x0, x1, x2]) 0 = some (.agg [x0, x1]) := by kernel_rfl
theorem dp89_0_3 (x0 x1 x2 : D) : dpart Tryz.prog 89 [x0, x1, x2] 0 = some (.agg [x0, x1]) := by simp only [dpart, ty89.1, ty89.2]; rfl
theorem fa91_1 (d : D) (off : Nat) : dfieldAddr Tryz.prog 91 (.fix d off) 1 = some (.fix d (off + 2)) := by kernel_rfl
theorem fp91_1 (k g off : Nat) : dfieldAddr Tryz.prog 91 (.ptr k g off) 1 = some (.ptr k g (off + 2)) := by kernel_rfl
theorem df91_1 (x0 x1 x2 : D) : dfield Tryz.prog 91 (.agg [x0, x1, x2]) 1 = some x2 := by kernel_rfl
theorem zr91 : zeroOf Tryz.prog 91 = some [.int .i64 0, .int .i64 0, .list []] := by kernel_rfl
theorem zrm91 : zrooms Tryz.prog 91 = [.no, .no, .full] := by kernel_rfl
theorem ty33 : elemT Tryz.prog 33 = some 91 ∧ Tryz.prog.underlying 33 = some (.slice 91) ∧ aggOf Tryz.prog 33 = some false := ⟨by kernel_rfl, by kernel_rfl, by kernel_rfl⟩
theorem sz33 : sizeT Tryz.prog 33 = some 1 := by kernel_rfl
theorem dp33 (cs : List D) (off : Nat) : dpart Tryz.prog 33 cs off = cs[off]? := by simp only [dpart, ty33.2.2]
theorem ia33 (es : List D) (ki : IntKind) (i : Int) : dindexAddr Tryz.prog 33 (.list es) (.int ki i) = if 0 ≤ i ∧ i < es.length then (if (dcells (es.getD i.toNat .bad)).length = 3 then some (.fix (es.getD i.toNat .bad) 0) else none) else none := by
  simp only [dindexAddr, ty33.1, ty91.2]
theorem ir33 (k g n : Nat) (ag : Bool) (ki : IntKind) (i : Int) : dindexAddr Tryz.prog 33 (.row k g n 3 ag) (.int ki i) = if 0 ≤ i ∧ i < n then some (.ptr k g (i.toNat * 3)) else none := by
  simp only [dindexAddr, ty33.1, ty91.2, and_true]
theorem len33 (l : List D) : dlen Tryz.prog #[33] (.list l) = some (.int .i64 l.length) := by kernel_rfl
theorem lenr33 (k g n sz : Nat) (ag : Bool) : dlen Tryz.prog #[33] (.row k g n sz ag) = some (.int .i64 n) := by kernel_rfl
theorem sl33 (es : List D) (lo hi : Option D) : dslice Tryz.prog 33 (.list es) lo hi none = if szOk 3 es = true then (dopt hi es.length es.length).bind fun h => (dopt lo h 0).map fun l => .list ((es.take h).drop l) else none := by kernel_rfl
theorem bt33 : bytesT Tryz.prog 33 = false := by kernel_rfl
theorem ap33 (es fs : List D) (r : List Room) : dappend Tryz.prog #[33, 33] (.list es) (.list fs) r = if lenOk (es.length + fs.length) 40 = true ∧ szOk 3 fs = true ∧ szOk 3 es = true ∧ (r = [.full] ∨ r = [.own 91] ∨ r = [.fresh]) then some (.list (es ++ fs), 91) else none := by
  have : (Tryz.prog.info? 91).map (fun i => (infoOk i, i.size, i.bytes)) = some (true, 3, 40) := by kernel_rfl
  obtain ⟨i, hi, h⟩ := Option.map_eq_some_iff.1 this
  injection h with h1 h2
  injection h2 with h2 h3
  simp only [dappend, ty33.1, hi, h1, h2, h3, if_true, true_and]
theorem ra33 (fs : List D) (h : 0 < fs.length) : rowApp Tryz.prog [33, 33] (.list []) [.full] (.list fs) = if lenOk fs.length 40 = true ∧ szOk 3 fs = true then some (fs, 3, true) else none := by
  have : (Tryz.prog.info? 91).map (fun i => (infoOk i, i.size, i.bytes)) = some (true, 3, 40) := by kernel_rfl
  obtain ⟨i, hi, h'⟩ := Option.map_eq_some_iff.1 this
  injection h' with h1 h2
  injection h2 with h2 h3
  have ha : aggOf Tryz.prog 91 = some true := by kernel_rfl
  simp only [rowApp, ty33.1, hi, ha, h1, h2, h3, h, true_and, and_self, if_true]
theorem zr33 : zeroOf Tryz.prog 33 = some [.list []] := by kernel_rfl
theorem zrm33 : zrooms Tryz.prog 33 = [.full] := by kernel_rfl
theorem bs33_0 : dbuildSlice Tryz.prog 33 0 [] = some (.list []) := by kernel_rfl
theorem fa36_3 (d : D) (off : Nat) : dfieldAddr Tryz.prog 36 (.fix d off) 3 = some (.fix d (off + 3)) := by kernel_rfl
theorem fp36_3 (k g off : Nat) : dfieldAddr Tryz.prog 36 (.ptr k g off) 3 = some (.ptr k g (off + 3)) := by kernel_rfl
theorem df36_3 (x0 x1 x2 x3 x4 : D) : dfield Tryz.prog 36 (.agg [x0, x1, x2, x3, x4]) 3 = some x3 := by kernel_rfl
theorem ty34 : elemT Tryz.prog 34 = some 43 ∧ Tryz.prog.underlying 34 = some (.slice 43) ∧ aggOf Tryz.prog 34 = some false := ⟨by kernel_rfl, by kernel_rfl, by kernel_rfl⟩
theorem sz34 : sizeT Tryz.prog 34 = some 1 := by kernel_rfl
theorem dp34 (cs : List D) (off : Nat) : dpart Tryz.prog 34 cs off = cs[off]? := by simp only [dpart, ty34.2.2]
theorem ia34 (es : List D) (ki : IntKind) (i : Int) : dindexAddr Tryz.prog 34 (.list es) (.int ki i) = if 0 ≤ i ∧ i < es.length then (if (dcells (es.getD i.toNat .bad)).length = 1 then some (.fix (es.getD i.toNat .bad) 0) else none) else none := by
  simp only [dindexAddr, ty34.1, sz43]
theorem ir34 (k g n : Nat) (ag : Bool) (ki : IntKind) (i : Int) : dindexAddr Tryz.prog 34 (.row k g n 1 ag) (.int ki i) = if 0 ≤ i ∧ i < n then some (.ptr k g (i.toNat * 1)) else none := by
  simp only [dindexAddr, ty34.1, sz43, and_true]
theorem len34 (l : List D) : dlen Tryz.prog #[34] (.list l) = some (.int .i64 l.length) := by kernel_rfl
theorem lenr34 (k g n sz : Nat) (ag : Bool) : dlen Tryz.prog #[34] (.row k g n sz ag) = some (.int .i64 n) := by kernel_rfl
theorem sl34 (es : List D) (lo hi : Option D) : dslice Tryz.prog 34 (.list es) lo hi none = if szOk 1 es = true then (dopt hi es.length es.length).bind fun h => (dopt lo h 0).map fun l => .list ((es.take h).drop l) else none := by kernel_rfl
theorem bt34 : bytesT Tryz.prog 34 = false := by kernel_rfl
theorem ap34 (es fs : List D) (r : List Room) : dappend Tryz.prog #[34, 34] (.list es) (.list fs) r = if lenOk (es.length + fs.length) 24 = true ∧ szOk 1 fs = true ∧ szOk 1 es = true ∧ (r = [.full] ∨ r = [.own 43] ∨ r = [.fresh]) then some (.list (es ++ fs), 43) else none := by
  have : (Tryz.prog.info? 43).map (fun i => (infoOk i, i.size, i.bytes)) = some (true, 1, 24) := by kernel_rfl
  obtain ⟨i, hi, h⟩ := Option.map_eq_some_iff.1 this
  injection h with h1 h2
  injection h2 with h2 h3
  simp only [dappend, ty34.1, hi, h1, h2, h3, if_true, true_and]
theorem ra34 (fs : List D) (h : 0 < fs.length) : rowApp Tryz.prog [34, 34] (.list []) [.full] (.list fs) = if lenOk fs.length 24 = true ∧ szOk 1 fs = true then some (fs, 1, false) else none := by
  have : (Tryz.prog.info? 43).map (fun i => (infoOk i, i.size, i.bytes)) = some (true, 1, 24) := by kernel_rfl
  obtain ⟨i, hi, h'⟩ := Option.map_eq_some_iff.1 this
  injection h' with h1 h2
  injection h2 with h2 h3
  have ha : aggOf Tryz.prog 43 = some false := by kernel_rfl
  simp only [rowApp, ty34.1, hi, ha, h1, h2, h3, h, true_and, and_self, if_true]
theorem zr34 : zeroOf Tryz.prog 34 = some [.list []] := by kernel_rfl
theorem zrm34 : zrooms Tryz.prog 34 = [.full] := by kernel_rfl
theorem bs34_0 : dbuildSlice Tryz.prog 34 0 [] = some (.list []) := by kernel_rfl
theorem fa36_4 (d : D) (off : Nat) : dfieldAddr Tryz.prog 36 (.fix d off) 4 = some (.fix d (off + 4)) := by kernel_rfl
theorem fp36_4 (k g off : Nat) : dfieldAddr Tryz.prog 36 (.ptr k g off) 4 = some (.ptr k g (off + 4)) := by kernel_rfl
theorem df36_4 (x0 x1 x2 x3 x4 : D) : dfield Tryz.prog 36 (.agg [x0, x1, x2, x3, x4]) 4 = some x4 := by kernel_rfl
theorem zr36 : zeroOf Tryz.prog 36 = some [.list [], .list [], .list [], .list [], .int .i64 0] := by kernel_rfl
theorem zrm36 : zrooms Tryz.prog 36 = [.full, .full, .full, .full, .no] := by kernel_rfl
theorem pr5_0 (rs : List Room) : putR rs 0 5 [] = [.no, .no, .no, .no, .no] ++ rs.drop 5 := rfl
theorem ty45 : aggOf Tryz.prog 45 = some true ∧ sizeT Tryz.prog 45 = some 4 := ⟨by kernel_rfl, by kernel_rfl⟩
theorem dp45 (x0 x1 x2 x3 : D) : dpart Tryz.prog 45 [x0, x1, x2, x3] 0 = some (.agg [x0, x1, x2, x3]) := by simp only [dpart, ty45.1, ty45.2]; rfl
theorem fa45_0 (d : D) (off : Nat) : dfieldAddr Tryz.prog 45 (.fix d off) 0 = some (.fix d (off + 0)) := by kernel_rfl
theorem fp45_0 (k g off : Nat) : dfieldAddr Tryz.prog 45 (.ptr k g off) 0 = some (.ptr k g (off + 0)) := by kernel_rfl
theorem df45_0 (x0 x1 x2 x3 : D) : dfield Tryz.prog 45 (.agg [x0, x1, x2, x3]) 0 = some x0 := by kernel_rfl
theorem fa45_1 (d : D) (off : Nat) : dfieldAddr Tryz.prog 45 (.fix d off) 1 = some (.fix d (off + 1)) := by kernel_rfl
theorem fp45_1 (k g off : Nat) : dfieldAddr Tryz.prog 45 (.ptr k g off) 1 = some (.ptr k g (off + 1)) := by kernel_rfl
theorem df45_1 (x0 x1 x2 x3 : D) : dfield Tryz.prog 45 (.agg [x0, x1, x2, x3]) 1 = some x1 := by kernel_rfl
theorem ty42 : elemT Tryz.prog 42 = some 4 ∧ Tryz.prog.underlying 42 = some (.slice 4) ∧ aggOf Tryz.prog 42 = some false := ⟨by kernel_rfl, by kernel_rfl, by kernel_rfl⟩
theorem sz42 : sizeT Tryz.prog 42 = some 1 := by kernel_rfl
theorem dp42 (cs : List D) (off : Nat) : dpart Tryz.prog 42 cs off = cs[off]? := by simp only [dpart, ty42.2.2]
theorem ia42 (es : List D) (ki : IntKind) (i : Int) : dindexAddr Tryz.prog 42 (.list es) (.int ki i) = if 0 ≤ i ∧ i < es.length then (if (dcells (es.getD i.toNat .bad)).length = 1 then some (.fix (es.getD i.toNat .bad) 0) else none) else none := by
  simp only [dindexAddr, ty42.1, sz4]
theorem ir42 (k g n : Nat) (ag : Bool) (ki : IntKind) (i : Int) : dindexAddr Tryz.prog 42 (.row k g n 1 ag) (.int ki i) = if 0 ≤ i ∧ i < n then some (.ptr k g (i.toNat * 1)) else none := by
  simp only [dindexAddr, ty42.1, sz4, and_true]
theorem len42 (l : List D) : dlen Tryz.prog #[42] (.list l) = some (.int .i64 l.length) := by kernel_rfl
theorem lenr42 (k g n sz : Nat) (ag : Bool) : dlen Tryz.prog #[42] (.row k g n sz ag) = some (.int .i64 n) := by kernel_rfl
theorem sl42 (es : List D) (lo hi : Option D) : dslice Tryz.prog 42 (.list es) lo hi none = if szOk 1 es = true then (dopt hi es.length es.length).bind fun h => (dopt lo h 0).map fun l => .list ((es.take h).drop l) else none := by kernel_rfl
theorem bt42 : bytesT Tryz.prog 42 = false := by kernel_rfl
theorem ap42 (es fs : List D) (r : List Room) : dappend Tryz.prog #[42, 42] (.list es) (.list fs) r = if lenOk (es.length + fs.length) 1 = true ∧ szOk 1 fs = true ∧ szOk 1 es = true ∧ (r = [.full] ∨ r = [.own 4] ∨ r = [.fresh]) then some (.list (es ++ fs), 4) else none := by
  have : (Tryz.prog.info? 4).map (fun i => (infoOk i, i.size, i.bytes)) = some (true, 1, 1) := by kernel_rfl
  obtain ⟨i, hi, h⟩ := Option.map_eq_some_iff.1 this
  injection h with h1 h2
  injection h2 with h2 h3
  simp only [dappend, ty42.1, hi, h1, h2, h3, if_true, true_and]
theorem ra42 (fs : List D) (h : 0 < fs.length) : rowApp Tryz.prog [42, 42] (.list []) [.full] (.list fs) = if lenOk fs.length 1 = true ∧ szOk 1 fs = true then some (fs, 1, false) else none := by
  have : (Tryz.prog.info? 4).map (fun i => (infoOk i, i.size, i.bytes)) = some (true, 1, 1) := by kernel_rfl
  obtain ⟨i, hi, h'⟩ := Option.map_eq_some_iff.1 this
  injection h' with h1 h2
  injection h2 with h2 h3
  have ha : aggOf Tryz.prog 4 = some false := by kernel_rfl
  simp only [rowApp, ty42.1, hi, ha, h1, h2, h3, h, true_and, and_self, if_true]
theorem zr42 : zeroOf Tryz.prog 42 = some [.list []] := by kernel_rfl
theorem zrm42 : zrooms Tryz.prog 42 = [.full] := by kernel_rfl
theorem bs42_0 : dbuildSlice Tryz.prog 42 0 [] = some (.list []) := by kernel_rfl
theorem fa45_2 (d : D) (off : Nat) : dfieldAddr Tryz.prog 45 (.fix d off) 2 = some (.fix d (off + 2)) := by kernel_rfl
theorem fp45_2 (k g off : Nat) : dfieldAddr Tryz.prog 45 (.ptr k g off) 2 = some (.ptr k g (off + 2)) := by kernel_rfl
theorem df45_2 (x0 x1 x2 x3 : D) : dfield Tryz.prog 45 (.agg [x0, x1, x2, x3]) 2 = some x2 := by kernel_rfl
theorem fa45_3 (d : D) (off : Nat) : dfieldAddr Tryz.prog 45 (.fix d off) 3 = some (.fix d (off + 3)) := by kernel_rfl
theorem fp45_3 (k g off : Nat) : dfieldAddr Tryz.prog 45 (.ptr k g off) 3 = some (.ptr k g (off + 3)) := by kernel_rfl
theorem df45_3 (x0 x1 x2 x3 : D) : dfield Tryz.prog 45 (.agg [x0, x1, x2, x3]) 3 = some x3 := by kernel_rfl
theorem zr45 : zeroOf Tryz.prog 45 = some [.bool false, .list [], .list [], .list []] := by kernel_rfl
theorem zrm45 : zrooms Tryz.prog 45 = [.no, .full, .full, .full] := by kernel_rfl
theorem ty39 : elemT Tryz.prog 39 = some 42 ∧ Tryz.prog.underlying 39 = some (.slice 42) ∧ aggOf Tryz.prog 39 = some false := ⟨by kernel_rfl, by kernel_rfl, by kernel_rfl⟩
theorem sz39 : sizeT Tryz.prog 39 = some 1 := by kernel_rfl
theorem dp39 (cs : List D) (off : Nat) : dpart Tryz.prog 39 cs off = cs[off]? := by simp only [dpart, ty39.2.2]
theorem ia39 (es : List D) (ki : IntKind) (i : Int) : dindexAddr Tryz.prog 39 (.list es) (.int ki i) = if 0 ≤ i ∧ i < es.length then (if (dcells (es.getD i.toNat .bad)).length = 1 then some (.fix (es.getD i.toNat .bad) 0) else none) else none := by
  simp only [dindexAddr, ty39.1, sz42]
theorem ir39 (k g n : Nat) (ag : Bool) (ki : IntKind) (i : Int) : dindexAddr Tryz.prog 39 (.row k g n 1 ag) (.int ki i) = if 0 ≤ i ∧ i < n then some (.ptr k g (i.toNat * 1)) else none := by
  simp only [dindexAddr, ty39.1, sz42, and_true]
theorem len39 (l : List D) : dlen Tryz.prog #[39] (.list l) = some (.int .i64 l.length) := by kernel_rfl
theorem lenr39 (k g n sz : Nat) (ag : Bool) : dlen Tryz.prog #[39] (.row k g n sz ag) = some (.int .i64 n) := by kernel_rfl
theorem sl39 (es : List D) (lo hi : Option D) : dslice Tryz.prog 39 (.list es) lo hi none = if szOk 1 es = true then (dopt hi es.length es.length).bind fun h => (dopt lo h 0).map fun l => .list ((es.take h).drop l) else none := by kernel_rfl
theorem bt39 : bytesT Tryz.prog 39 = false := by kernel_rfl
theorem ap39 (es fs : List D) (r : List Room) : dappend Tryz.prog #[39, 39] (.list es) (.list fs) r = if lenOk (es.length + fs.length) 24 = true ∧ szOk 1 fs = true ∧ szOk 1 es = true ∧ (r = [.full] ∨ r = [.own 42] ∨ r = [.fresh]) then some (.list (es ++ fs), 42) else none := by
  have : (Tryz.prog.info? 42).map (fun i => (infoOk i, i.size, i.bytes)) = some (true, 1, 24) := by kernel_rfl
  obtain ⟨i, hi, h⟩ := Option.map_eq_some_iff.1 this
  injection h with h1 h2
  injection h2 with h2 h3
  simp only [dappend, ty39.1, hi, h1, h2, h3, if_true, true_and]
theorem ra39 (fs : List D) (h : 0 < fs.length) : rowApp Tryz.prog [39, 39] (.list []) [.full] (.list fs) = if lenOk fs.length 24 = true ∧ szOk 1 fs = true then some (fs, 1, false) else none := by
  have : (Tryz.prog.info? 42).map (fun i => (infoOk i, i.size, i.bytes)) = some (true, 1, 24) := by kernel_rfl
  obtain ⟨i, hi, h'⟩ := Option.map_eq_some_iff.1 this
  injection h' with h1 h2
  injection h2 with h2 h3
  have ha : aggOf Tryz.prog 42 = some false := by kernel_rfl
  simp only [rowApp, ty39.1, hi, ha, h1, h2, h3, h, true_and, and_self, if_true]
theorem zr39 : zeroOf Tryz.prog 39 = some [.list []] := by kernel_rfl
theorem zrm39 : zrooms Tryz.prog 39 = [.full] := by kernel_rfl
theorem bs39_0 : dbuildSlice Tryz.prog 39 0 [] = some (.list []) := by kernel_rfl
theorem ty76 : elemT Tryz.prog 76 = some 45 ∧ Tryz.prog.underlying 76 = some (.slice 45) ∧ aggOf Tryz.prog 76 = some false := ⟨by kernel_rfl, by kernel_rfl, by kernel_rfl⟩
theorem sz76 : sizeT Tryz.prog 76 = some 1 := by kernel_rfl
theorem dp76 (cs : List D) (off : Nat) : dpart Tryz.prog 76 cs off = cs[off]? := by simp only [dpart, ty76.2.2]
theorem ia76 (es : List D) (ki : IntKind) (i : Int) : dindexAddr Tryz.prog 76 (.list es) (.int ki i) = if 0 ≤ i ∧ i < es.length then (if (dcells (es.getD i.toNat .bad)).length = 4 then some (.fix (es.getD i.toNat .bad) 0) else none) else none := by
  simp only [dindexAddr, ty76.1, ty45.2]
theorem ir76 (k g n : Nat) (ag : Bool) (ki : IntKind) (i : Int) : dindexAddr Tryz.prog 76 (.row k g n 4 ag) (.int ki i) = if 0 ≤ i ∧ i < n then some (.ptr k g (i.toNat * 4)) else none := by
  simp only [dindexAddr, ty76.1, ty45.2, and_true]
theorem len76 (l : List D) : dlen Tryz.prog #[76] (.list l) = some (.int .i64 l.length) := by kernel_rfl
theorem lenr76 (k g n sz : Nat) (ag : Bool) : dlen Tryz.prog #[76] (.row k g n sz ag) = some (.int .i64 n) := by kernel_rfl
theorem sl76 (es : List D) (lo hi : Option D) : dslice Tryz.prog 76 (.list es) lo hi none = if szOk 4 es = true then (dopt hi es.length es.length).bind fun h => (dopt lo h 0).map fun l => .list ((es.take h).drop l) else none := by kernel_rfl
theorem bt76 : bytesT Tryz.prog 76 = false := by kernel_rfl
theorem ap76 (es fs : List D) (r : List Room) : dappend Tryz.prog #[76, 76] (.list es) (.list fs) r = if lenOk (es.length + fs.length) 80 = true ∧ szOk 4 fs = true ∧ szOk 4 es = true ∧ (r = [.full] ∨ r = [.own 45] ∨ r = [.fresh]) then some (.list (es ++ fs), 45) else none := by
  have : (Tryz.prog.info? 45).map (fun i => (infoOk i, i.size, i.bytes)) = some (true, 4, 80) := by kernel_rfl
  obtain ⟨i, hi, h⟩ := Option.map_eq_some_iff.1 this
  injection h with h1 h2
  injection h2 with h2 h3
  simp only [dappend, ty76.1, hi, h1, h2, h3, if_true, true_and]
theorem ra76 (fs : List D) (h : 0 < fs.length) : rowApp Tryz.prog [76, 76] (.list []) [.full] (.list fs) = if lenOk fs.length 80 = true ∧ szOk 4 fs = true then some (fs, 4, true) else none := by
  have : (Tryz.prog.info? 45).map (fun i => (infoOk i, i.size, i.bytes)) = some (true, 4, 80) := by kernel_rfl
  obtain ⟨i, hi, h'⟩ := Option.map_eq_some_iff.1 this
  injection h' with h1 h2
  injection h2 with h2 h3
  have ha : aggOf Tryz.prog 45 = some true := by kernel_rfl
  simp only [rowApp, ty76.1, hi, ha, h1, h2, h3, h, true_and, and_self, if_true]
theorem zr76 : zeroOf Tryz.prog 76 = some [.list []] := by kernel_rfl
theorem zrm76 : zrooms Tryz.prog 76 = [.full] := by kernel_rfl
theorem bs76_0 : dbuildSlice Tryz.prog 76 0 [] = some (.list []) := by kernel_rfl
theorem ty130 : elemT Tryz.prog 130 = some 89 ∧ Tryz.prog.underlying 130 = some (.slice 89) ∧ aggOf Tryz.prog 130 = some false := ⟨by kernel_rfl, by kernel_rfl, by kernel_rfl⟩
theorem sz130 : sizeT Tryz.prog 130 = some 1 := by kernel_rfl
theorem dp130 (cs : List D) (off : Nat) : dpart Tryz.prog 130 cs off = cs[off]? := by simp only [dpart, ty130.2.2]
theorem ia130 (es : List D) (ki : IntKind) (i : Int) : dindexAddr Tryz.prog 130 (.list es) (.int ki i) = if 0 ≤ i ∧ i < es.length then (if (dcells (es.getD i.toNat .bad)).length = 2 then some (.fix (es.getD i.toNat .bad) 0) else none) else none := by
  simp only [dindexAddr, ty130.1, ty89.2]
theorem ir130 (k g n : Nat) (ag : Bool) (ki : IntKind) (i : Int) : dindexAddr Tryz.prog 130 (.row k g n 2 ag) (.int ki i) = if 0 ≤ i ∧ i < n then some (.ptr k g (i.toNat * 2)) else none := by
  simp only [dindexAddr, ty130.1, ty89.2, and_true]
theorem len130 (l : List D) : dlen Tryz.prog #[130] (.list l) = some (.int .i64 l.length) := by kernel_rfl
theorem lenr130 (k g n sz : Nat) (ag : Bool) : dlen Tryz.prog #[130] (.row k g n sz ag) = some (.int .i64 n) := by kernel_rfl
theorem sl130 (es : List D) (lo hi : Option D) : dslice Tryz.prog 130 (.list es) lo hi none = if szOk 2 es = true then (dopt hi es.length es.length).bind fun h => (dopt lo h 0).map fun l => .list ((es.take h).drop l) else none := by kernel_rfl
theorem bt130 : bytesT Tryz.prog 130 = false := by kernel_rfl
theorem ap130 (es fs : List D) (r : List Room) : dappend Tryz.prog #[130, 130] (.list es) (.list fs) r = if lenOk (es.length + fs.length) 16 = true ∧ szOk 2 fs = true ∧ szOk 2 es = true ∧ (r = [.full] ∨ r = [.own 89] ∨ r = [.fresh]) then some (.list (es ++ fs), 89) else none := by
  have : (Tryz.prog.info? 89).map (fun i => (infoOk i, i.size, i.bytes)) = some (true, 2, 16) := by kernel_rfl
  obtain ⟨i, hi, h⟩ := Option.map_eq_some_iff.1 this
  injection h with h1 h2
  injection h2 with h2 h3
  simp only [dappend, ty130.1, hi, h1, h2, h3, if_true, true_and]
theorem ra130 (fs : List D) (h : 0 < fs.length) : rowApp Tryz.prog [130, 130] (.list []) [.full] (.list fs) = if lenOk fs.length 16 = true ∧ szOk 2 fs = true then some (fs, 2, true) else none := by
  have : (Tryz.prog.info? 89).map (fun i => (infoOk i, i.size, i.bytes)) = some (true, 2, 16) := by kernel_rfl
  obtain ⟨i, hi, h'⟩ := Option.map_eq_some_iff.1 this
  injection h' with h1 h2
  injection h2 with h2 h3
  have ha : aggOf Tryz.prog 89 = some true := by kernel_rfl
  simp only [rowApp, ty130.1, hi, ha, h1, h2, h3, h, true_and, and_self, if_true]
theorem zr130 : zeroOf Tryz.prog 130 = some [.list []] := by kernel_rfl
theorem zrm130 : zrooms Tryz.prog 130 = [.full] := by kernel_rfl
theorem bs130_0 : dbuildSlice Tryz.prog 130 0 [] = some (.list []) := by kernel_rfl
theorem ty111 : aggOf Tryz.prog 111 = some true ∧ sizeT Tryz.prog 111 = some 9 := ⟨by kernel_rfl, by kernel_rfl⟩
theorem dp111 (x0 x1 x2 x3 x4 x5 x6 x7 x8 : D) : dpart Tryz.prog 111 [x0, x1, x2, x3, x4, x5, x6, x7, x8] 0 = some (.agg [x0, x1, x2, x3, x4, x5, x6, x7, x8]) := by simp only [dpart, ty111.1, ty111.2]; rfl
theorem fa111_0 (d : D) (off : Nat) : dfieldAddr Tryz.prog 111 (.fix d off) 0 = some (.fix d (off + 0)) := by kernel_rfl
theorem fp111_0 (k g off : Nat) : dfieldAddr Tryz.prog 111 (.ptr k g off) 0 = some (.ptr k g (off + 0)) := by kernel_rfl
theorem df111_0 (x0 x1 x2 x3 x4 x5 x6 x7 x8 : D) : dfield Tryz.prog 111 (.agg [x0, x1, x2, x3, x4, x5, x6, x7, x8]) 0 = some (.agg [x0, x1, x2, x3]) := by kernel_rfl
theorem dp26_0_9 (x0 x1 x2 x3 x4 x5 x6 x7 x8 : D) : dpart Tryz.prog 26 [x0, x1, x2, x3, x4, x5, x6, x7, x8] 0 = some (.agg [x0, x1, x2, x3]) := by simp only [dpart, ty26.1, ty26.2]; rfl
theorem fa111_1 (d : D) (off : Nat) : dfieldAddr Tryz.prog 111 (.fix d off) 1 = some (.fix d (off + 4)) := by kernel_rfl
theorem fp111_1 (k g off : Nat) : dfieldAddr Tryz.prog 111 (.ptr k g off) 1 = some (.ptr k g (off + 4)) := by kernel_rfl
theorem df111_1 (x0 x1 x2 x3 x4 x5 x6 x7 x8 : D) : dfield Tryz.prog 111 (.agg [x0, x1, x2, x3, x4, x5, x6, x7, x8]) 1 = some (.agg [x4, x5, x6, x7, x8]) := by kernel_rfl
theorem dp36_4_9 (x0 x1 x2 x3 x4 x5 x6 x7 x8 : D) : dpart Tryz.prog 36 [x0, x1, x2, x3, x4, x5, x6, x7, x8] 4 = some (.agg [x4, x5, x6, x7, x8]) := by simp only [dpart, ty36.1, ty36.2]; rfl
theorem zr111 : zeroOf Tryz.prog 111 = some [.bool false, .str [], .list [], .list [], .list [], .list [], .list [], .list [], .int .i64 0] := by kernel_rfl
theorem zrm111 : zrooms Tryz.prog 111 = [.no, .no, .full, .full, .full, .full, .full, .full, .no] := by kernel_rfl
theorem pr9_0 (rs : List Room) : putR rs 0 9 [] = [.no, .no, .no, .no, .no, .no, .no, .no, .no] ++ rs.drop 9 := rfl
theorem ty87 : aggOf Tryz.prog 87 = some true ∧ sizeT Tryz.prog 87 = some 11 := ⟨by kernel_rfl, by kernel_rfl⟩
theorem dp87 (x0 x1 x2 x3 x4 x5 x6 x7 x8 x9 x10 : D) : dpart Tryz.prog 87 [x0, x1, x2, x3, x4, x5, x6, x7, x8, x9, x10] 0 = some (.agg [x0, x1, x2, x3, x4, x5, x6, x7, x8, x9, x10]) := by simp only [dpart, ty87.1, ty87.2]; rfl
theorem fa87_0 (d : D) (off : Nat) : dfieldAddr Tryz.prog 87 (.fix d off) 0 = some (.fix d (off + 0)) := by kernel_rfl
theorem fp87_0 (k g off : Nat) : dfieldAddr Tryz.prog 87 (.ptr k g off) 0 = some (.ptr k g (off + 0)) := by kernel_rfl
theorem df87_0 (x0 x1 x2 x3 x4 x5 x6 x7 x8 x9 x10 : D) : dfield Tryz.prog 87 (.agg [x0, x1, x2, x3, x4, x5, x6, x7, x8, x9, x10]) 0 = some (.agg [x0, x1, x2, x3, x4]) := by kernel_rfl
theorem dp36_0_11 (x0 x1 x2 x3 x4 x5 x6 x7 x8 x9 x10 : D) : dpart Tryz.prog 36 [x0, x1, x2, x3, x4, x5, x6, x7, x8, x9, x10] 0 = some (.agg [x0, x1, x2, x3, x4]) := by simp only [dpart, ty36.1, ty36.2]; rfl
theorem fa87_1 (d : D) (off : Nat) : dfieldAddr Tryz.prog 87 (.fix d off) 1 = some (.fix d (off + 5)) := by kernel_rfl
theorem fp87_1 (k g off : Nat) : dfieldAddr Tryz.prog 87 (.ptr k g off) 1 = some (.ptr k g (off + 5)) := by kernel_rfl
theorem df87_1 (x0 x1 x2 x3 x4 x5 x6 x7 x8 x9 x10 : D) : dfield Tryz.prog 87 (.agg [x0, x1, x2, x3, x4, x5, x6, x7, x8, x9, x10]) 1 = some (.agg [x5, x6, x7, x8]) := by kernel_rfl
theorem dp45_5_11 (x0 x1 x2 x3 x4 x5 x6 x7 x8 x9 x10 : D) : dpart Tryz.prog 45 [x0, x1, x2, x3, x4, x5, x6, x7, x8, x9, x10] 5 = some (.agg [x5, x6, x7, x8]) := by simp only [dpart, ty45.1, ty45.2]; rfl
theorem fa87_2 (d : D) (off : Nat) : dfieldAddr Tryz.prog 87 (.fix d off) 2 = some (.fix d (off + 9)) := by kernel_rfl
theorem fp87_2 (k g off : Nat) : dfieldAddr Tryz.prog 87 (.ptr k g off) 2 = some (.ptr k g (off + 9)) := by kernel_rfl
theorem df87_2 (x0 x1 x2 x3 x4 x5 x6 x7 x8 x9 x10 : D) : dfield Tryz.prog 87 (.agg [x0, x1, x2, x3, x4, x5, x6, x7, x8, x9, x10]) 2 = some x9 := by kernel_rfl
theorem fa87_3 (d : D) (off : Nat) : dfieldAddr Tryz.prog 87 (.fix d off) 3 = some (.fix d (off + 10)) := by kernel_rfl
theorem fp87_3 (k g off : Nat) : dfieldAddr Tryz.prog 87 (.ptr k g off) 3 = some (.ptr k g (off + 10)) := by kernel_rfl
theorem df87_3 (x0 x1 x2 x3 x4 x5 x6 x7 x8 x9 x10 : D) : dfield Tryz.prog 87 (.agg [x0, x1, x2, x3, x4, x5, x6, x7, x8, x9, x10]) 3 = some x10 := by kernel_rfl
theorem zr87 : zeroOf Tryz.prog 87 = some [.list [], .list [], .list [], .list [], .int .i64 0, .bool false, .list [], .list [], .list [], .list [], .list []] := by kernel_rfl
theorem zrm87 : zrooms Tryz.prog 87 = [.full, .full, .full, .full, .no, .no, .full, .full, .full, .full, .full] := by kernel_rfl
theorem ty54 : aggOf Tryz.prog 54 = some true ∧ sizeT Tryz.prog 54 = some 7 := ⟨by kernel_rfl, by kernel_rfl⟩
theorem dp54 (x0 x1 x2 x3 x4 x5 x6 : D) : dpart Tryz.prog 54 [x0, x1, x2, x3, x4, x5, x6] 0 = some (.agg [x0, x1, x2, x3, x4, x5, x6]) := by simp only [dpart, ty54.1, ty54.2]; rfl
theorem fa54_0 (d : D) (off : Nat) : dfieldAddr Tryz.prog 54 (.fix d off) 0 = some (.fix d (off + 0)) := by kernel_rfl
theorem fp54_0 (k g off : Nat) : dfieldAddr Tryz.prog 54 (.ptr k g off) 0 = some (.ptr k g (off + 0)) := by kernel_rfl
theorem df54_0 (x0 x1 x2 x3 x4 x5 x6 : D) : dfield Tryz.prog 54 (.agg [x0, x1, x2, x3, x4, x5, x6]) 0 = some x0 := by kernel_rfl
theorem fa54_1 (d : D) (off : Nat) : dfieldAddr Tryz.prog 54 (.fix d off) 1 = some (.fix d (off + 1)) := by kernel_rfl
theorem fp54_1 (k g off : Nat) : dfieldAddr Tryz.prog 54 (.ptr k g off) 1 = some (.ptr k g (off + 1)) := by kernel_rfl
theorem df54_1 (x0 x1 x2 x3 x4 x5 x6 : D) : dfield Tryz.prog 54 (.agg [x0, x1, x2, x3, x4, x5, x6]) 1 = some x1 := by kernel_rfl
theorem fa54_2 (d : D) (off : Nat) : dfieldAddr Tryz.prog 54 (.fix d off) 2 = some (.fix d (off + 2)) := by kernel_rfl
theorem fp54_2 (k g off : Nat) : dfieldAddr Tryz.prog 54 (.ptr k g off) 2 = some (.ptr k g (off + 2)) := by kernel_rfl
theorem df54_2 (x0 x1 x2 x3 x4 x5 x6 : D) : dfield Tryz.prog 54 (.agg [x0, x1, x2, x3, x4, x5, x6]) 2 = some x2 := by kernel_rfl
theorem fa54_3 (d : D) (off : Nat) : dfieldAddr Tryz.prog 54 (.fix d off) 3 = some (.fix d (off + 3)) := by kernel_rfl
theorem fp54_3 (k g off : Nat) : dfieldAddr Tryz.prog 54 (.ptr k g off) 3 = some (.ptr k g (off + 3)) := by kernel_rfl
theorem df54_3 (x0 x1 x2 x3 x4 x5 x6 : D) : dfield Tryz.prog 54 (.agg [x0, x1, x2, x3, x4, x5, x6]) 3 = some x3 := by kernel_rfl
theorem fa54_4 (d : D) (off : Nat) : dfieldAddr Tryz.prog 54 (.fix d off) 4 = some (.fix d (off + 4)) := by kernel_rfl
theorem fp54_4 (k g off : Nat) : dfieldAddr Tryz.prog 54 (.ptr k g off) 4 = some (.ptr k g (off + 4)) := by kernel_rfl
theorem df54_4 (x0 x1 x2 x3 x4 x5 x6 : D) : dfield Tryz.prog 54 (.agg [x0, x1, x2, x3, x4, x5, x6]) 4 = some x4 := by kernel_rfl
theorem ty123 : aggOf Tryz.prog 123 = some true ∧ sizeT Tryz.prog 123 = some 3 := ⟨by kernel_rfl, by kernel_rfl⟩
theorem dp123 (x0 x1 x2 : D) : dpart Tryz.prog 123 [x0, x1, x2] 0 = some (.agg [x0, x1, x2]) := by simp only [dpart, ty123.1, ty123.2]; rfl
theorem fa123_0 (d : D) (off : Nat) : dfieldAddr Tryz.prog 123 (.fix d off) 0 = some (.fix d (off + 0)) := by kernel_rfl
theorem fp123_0 (k g off : Nat) : dfieldAddr Tryz.prog 123 (.ptr k g off) 0 = some (.ptr k g (off + 0)) := by kernel_rfl
theorem df123_0 (x0 x1 x2 : D) : dfield Tryz.prog 123 (.agg [x0, x1, x2]) 0 = some x0 := by kernel_rfl
theorem fa123_1 (d : D) (off : Nat) : dfieldAddr Tryz.prog 123 (.fix d off) 1 = some (.fix d (off + 1)) := by kernel_rfl
theorem fp123_1 (k g off : Nat) : dfieldAddr Tryz.prog 123 (.ptr k g off) 1 = some (.ptr k g (off + 1)) := by kernel_rfl
theorem df123_1 (x0 x1 x2 : D) : dfield Tryz.prog 123 (.agg [x0, x1, x2]) 1 = some x1 := by kernel_rfl
theorem fa123_2 (d : D) (off : Nat) : dfieldAddr Tryz.prog 123 (.fix d off) 2 = some (.fix d (off + 2)) := by kernel_rfl
theorem fp123_2 (k g off : Nat) : dfieldAddr Tryz.prog 123 (.ptr k g off) 2 = some (.ptr k g (off + 2)) := by kernel_rfl
theorem df123_2 (x0 x1 x2 : D) : dfield Tryz.prog 123 (.agg [x0, x1, x2]) 2 = some x2 := by kernel_rfl
theorem zr123 : zeroOf Tryz.prog 123 = some [.str [], .str [], .str []] := by kernel_rfl
theorem zrm123 : zrooms Tryz.prog 123 = [.no, .no, .no] := by kernel_rfl
theorem ty52 : elemT Tryz.prog 52 = some 123 ∧ Tryz.prog.underlying 52 = some (.slice 123) ∧ aggOf Tryz.prog 52 = some false := ⟨by kernel_rfl, by kernel_rfl, by kernel_rfl⟩
theorem sz52 : sizeT Tryz.prog 52 = some 1 := by kernel_rfl
theorem dp52 (cs : List D) (off : Nat) : dpart Tryz.prog 52 cs off = cs[off]? := by simp only [dpart, ty52.2.2]
theorem ia52 (es : List D) (ki : IntKind) (i : Int) : dindexAddr Tryz.prog 52 (.list es) (.int ki i) = if 0 ≤ i ∧ i < es.length then (if (dcells (es.getD i.toNat .bad)).length = 3 then some (.fix (es.getD i.toNat .bad) 0) else none) else none := by
  simp only [dindexAddr, ty52.1, ty123.2]
theorem ir52 (k g n : Nat) (ag : Bool) (ki : IntKind) (i : Int) : dindexAddr Tryz.prog 52 (.row k g n 3 ag) (.int ki i) = if 0 ≤ i ∧ i < n then some (.ptr k g (i.toNat * 3)) else none := by
  simp only [dindexAddr, ty52.1, ty123.2, and_true]
theorem len52 (l : List D) : dlen Tryz.prog #[52] (.list l) = some (.int .i64 l.length) := by kernel_rfl
theorem lenr52 (k g n sz : Nat) (ag : Bool) : dlen Tryz.prog #[52] (.row k g n sz ag) = some (.int .i64 n) := by kernel_rfl
theorem sl52 (es : List D) (lo hi : Option D) : dslice Tryz.prog 52 (.list es) lo hi none = if szOk 3 es = true then (dopt hi es.length es.length).bind fun h => (dopt lo h 0).map fun l => .list ((es.take h).drop l) else none := by kernel_rfl
theorem bt52 : bytesT Tryz.prog 52 = false := by kernel_rfl
theorem ap52 (es fs : List D) (r : List Room) : dappend Tryz.prog #[52, 52] (.list es) (.list fs) r = if lenOk (es.length + fs.length) 48 = true ∧ szOk 3 fs = true ∧ szOk 3 es = true ∧ (r = [.full] ∨ r = [.own 123] ∨ r = [.fresh]) then some (.list (es ++ fs), 123) else none := by
  have : (Tryz.prog.info? 123).map (fun i => (infoOk i, i.size, i.bytes)) = some (true, 3, 48) := by kernel_rfl
  obtain ⟨i, hi, h⟩ := Option.map_eq_some_iff.1 this
  injection h with h1 h2
  injection h2 with h2 h3
  simp only [dappend, ty52.1, hi, h1, h2, h3, if_true, true_and]
theorem ra52 (fs : List D) (h : 0 < fs.length) : rowApp Tryz.prog [52, 52] (.list []) [.full] (.list fs) = if lenOk fs.length 48 = true ∧ szOk 3 fs = true then some (fs, 3, true) else none := by
  have : (Tryz.prog.info? 123).map (fun i => (infoOk i, i.size, i.bytes)) = some (true, 3, 48) := by kernel_rfl
  obtain ⟨i, hi, h'⟩ := Option.map_eq_some_iff.1 this
  injection h' with h1 h2
  injection h2 with h2 h3
  have ha : aggOf Tryz.prog 123 = some true := by kernel_rfl
  simp only [rowApp, ty52.1, hi, ha, h1, h2, h3, h, true_and, and_self, if_true]
theorem zr52 : zeroOf Tryz.prog 52 = some [.list []] := by kernel_rfl
theorem zrm52 : zrooms Tryz.prog 52 = [.full] := by kernel_rfl
theorem bs52_0 : dbuildSlice Tryz.prog 52 0 [] = some (.list []) := by kernel_rfl
theorem fa54_5 (d : D) (off : Nat) : dfieldAddr Tryz.prog 54 (.fix d off) 5 = some (.fix d (off + 5)) := by kernel_rfl
theorem fp54_5 (k g off : Nat) : dfieldAddr Tryz.prog 54 (.ptr k g off) 5 = some (.ptr k g (off + 5)) := by kernel_rfl
theorem df54_5 (x0 x1 x2 x3 x4 x5 x6 : D) : dfield Tryz.prog 54 (.agg [x0, x1, x2, x3, x4, x5, x6]) 5 = some x5 := by kernel_rfl
theorem fa54_6 (d : D) (off : Nat) : dfieldAddr Tryz.prog 54 (.fix d off) 6 = some (.fix d (off + 6)) := by kernel_rfl
theorem fp54_6 (k g off : Nat) : dfieldAddr Tryz.prog 54 (.ptr k g off) 6 = some (.ptr k g (off + 6)) := by kernel_rfl
theorem df54_6 (x0 x1 x2 x3 x4 x5 x6 : D) : dfield Tryz.prog 54 (.agg [x0, x1, x2, x3, x4, x5, x6]) 6 = some x6 := by kernel_rfl
theorem zr54 : zeroOf Tryz.prog 54 = some [.int .i64 0, .int .i64 0, .str [], .str [], .list [], .list [], .str []] := by kernel_rfl
theorem zrm54 : zrooms Tryz.prog 54 = [.no, .no, .no, .no, .full, .full, .no] := by kernel_rfl
theorem ty22 : elemT Tryz.prog 22 = some 54 ∧ Tryz.prog.underlying 22 = some (.slice 54) ∧ aggOf Tryz.prog 22 = some false := ⟨by kernel_rfl, by kernel_rfl, by kernel_rfl⟩
theorem sz22 : sizeT Tryz.prog 22 = some 1 := by kernel_rfl
theorem dp22 (cs : List D) (off : Nat) : dpart Tryz.prog 22 cs off = cs[off]? := by simp only [dpart, ty22.2.2]
theorem ia22 (es : List D) (ki : IntKind) (i : Int) : dindexAddr Tryz.prog 22 (.list es) (.int ki i) = if 0 ≤ i ∧ i < es.length then (if (dcells (es.getD i.toNat .bad)).length = 7 then some (.fix (es.getD i.toNat .bad) 0) else none) else none := by
  simp only [dindexAddr, ty22.1, ty54.2]
theorem ir22 (k g n : Nat) (ag : Bool) (ki : IntKind) (i : Int) : dindexAddr Tryz.prog 22 (.row k g n 7 ag) (.int ki i) = if 0 ≤ i ∧ i < n then some (.ptr k g (i.toNat * 7)) else none := by
  simp only [dindexAddr, ty22.1, ty54.2, and_true]
theorem len22 (l : List D) : dlen Tryz.prog #[22] (.list l) = some (.int .i64 l.length) := by kernel_rfl
theorem lenr22 (k g n sz : Nat) (ag : Bool) : dlen Tryz.prog #[22] (.row k g n sz ag) = some (.int .i64 n) := by kernel_rfl
theorem sl22 (es : List D) (lo hi : Option D) : dslice Tryz.prog 22 (.list es) lo hi none = if szOk 7 es = true then (dopt hi es.length es.length).bind fun h => (dopt lo h 0).map fun l => .list ((es.take h).drop l) else none := by kernel_rfl
theorem bt22 : bytesT Tryz.prog 22 = false := by kernel_rfl
theorem ap22 (es fs : List D) (r : List Room) : dappend Tryz.prog #[22, 22] (.list es) (.list fs) r = if lenOk (es.length + fs.length) 112 = true ∧ szOk 7 fs = true ∧ szOk 7 es = true ∧ (r = [.full] ∨ r = [.own 54] ∨ r = [.fresh]) then some (.list (es ++ fs), 54) else none := by
  have : (Tryz.prog.info? 54).map (fun i => (infoOk i, i.size, i.bytes)) = some (true, 7, 112) := by kernel_rfl
  obtain ⟨i, hi, h⟩ := Option.map_eq_some_iff.1 this
  injection h with h1 h2
  injection h2 with h2 h3
  simp only [dappend, ty22.1, hi, h1, h2, h3, if_true, true_and]
theorem ra22 (fs : List D) (h : 0 < fs.length) : rowApp Tryz.prog [22, 22] (.list []) [.full] (.list fs) = if lenOk fs.length 112 = true ∧ szOk 7 fs = true then some (fs, 7, true) else none := by
  have : (Tryz.prog.info? 54).map (fun i => (infoOk i, i.size, i.bytes)) = some (true, 7, 112) := by kernel_rfl
  obtain ⟨i, hi, h'⟩ := Option.map_eq_some_iff.1 this
  injection h' with h1 h2
  injection h2 with h2 h3
  have ha : aggOf Tryz.prog 54 = some true := by kernel_rfl
  simp only [rowApp, ty22.1, hi, ha, h1, h2, h3, h, true_and, and_self, if_true]
theorem zr22 : zeroOf Tryz.prog 22 = some [.list []] := by kernel_rfl
theorem zrm22 : zrooms Tryz.prog 22 = [.full] := by kernel_rfl
theorem bs22_0 : dbuildSlice Tryz.prog 22 0 [] = some (.list []) := by kernel_rfl
theorem ty5 : aggOf Tryz.prog 5 = some false ∧ sizeT Tryz.prog 5 = some 1 ∧ Tryz.prog.underlying 5 = some (.int .u8) := ⟨by kernel_rfl, by kernel_rfl, by kernel_rfl⟩
theorem dp5 (cs : List D) (off : Nat) : dpart Tryz.prog 5 cs off = cs[off]? := by simp only [dpart, ty5.1]
theorem sz5 : sizeT Tryz.prog 5 = some 1 := by kernel_rfl
theorem ty68 : elemT Tryz.prog 68 = some 5 ∧ Tryz.prog.underlying 68 = some (.slice 5) ∧ aggOf Tryz.prog 68 = some false := ⟨by kernel_rfl, by kernel_rfl, by kernel_rfl⟩
theorem sz68 : sizeT Tryz.prog 68 = some 1 := by kernel_rfl
theorem dp68 (cs : List D) (off : Nat) : dpart Tryz.prog 68 cs off = cs[off]? := by simp only [dpart, ty68.2.2]
theorem ia68 (es : List D) (ki : IntKind) (i : Int) : dindexAddr Tryz.prog 68 (.list es) (.int ki i) = if 0 ≤ i ∧ i < es.length then (if (dcells (es.getD i.toNat .bad)).length = 1 then some (.fix (es.getD i.toNat .bad) 0) else none) else none := by
  simp only [dindexAddr, ty68.1, sz5]
theorem ir68 (k g n : Nat) (ag : Bool) (ki : IntKind) (i : Int) : dindexAddr Tryz.prog 68 (.row k g n 1 ag) (.int ki i) = if 0 ≤ i ∧ i < n then some (.ptr k g (i.toNat * 1)) else none := by
  simp only [dindexAddr, ty68.1, sz5, and_true]
theorem len68 (l : List D) : dlen Tryz.prog #[68] (.list l) = some (.int .i64 l.length) := by kernel_rfl
theorem lenr68 (k g n sz : Nat) (ag : Bool) : dlen Tryz.prog #[68] (.row k g n sz ag) = some (.int .i64 n) := by kernel_rfl
theorem sl68 (es : List D) (lo hi : Option D) : dslice Tryz.prog 68 (.list es) lo hi none = if szOk 1 es = true then (dopt hi es.length es.length).bind fun h => (dopt lo h 0).map fun l => .list ((es.take h).drop l) else none := by kernel_rfl
theorem bt68 : bytesT Tryz.prog 68 = true := by kernel_rfl
theorem ap68 (es fs : List D) (r : List Room) : dappend Tryz.prog #[68, 68] (.list es) (.list fs) r = if lenOk (es.length + fs.length) 1 = true ∧ szOk 1 fs = true ∧ szOk 1 es = true ∧ (r = [.full] ∨ r = [.own 5] ∨ r = [.fresh]) then some (.list (es ++ fs), 5) else none := by
  have : (Tryz.prog.info? 5).map (fun i => (infoOk i, i.size, i.bytes)) = some (true, 1, 1) := by kernel_rfl
  obtain ⟨i, hi, h⟩ := Option.map_eq_some_iff.1 this
  injection h with h1 h2
  injection h2 with h2 h3
  simp only [dappend, ty68.1, hi, h1, h2, h3, if_true, true_and]
theorem ra68 (fs : List D) (h : 0 < fs.length) : rowApp Tryz.prog [68, 68] (.list []) [.full] (.list fs) = if lenOk fs.length 1 = true ∧ szOk 1 fs = true then some (fs, 1, false) else none := by
  have : (Tryz.prog.info? 5).map (fun i => (infoOk i, i.size, i.bytes)) = some (true, 1, 1) := by kernel_rfl
  obtain ⟨i, hi, h'⟩ := Option.map_eq_some_iff.1 this
  injection h' with h1 h2
  injection h2 with h2 h3
  have ha : aggOf Tryz.prog 5 = some false := by kernel_rfl
  simp only [rowApp, ty68.1, hi, ha, h1, h2, h3, h, true_and, and_self, if_true]
theorem zr68 : zeroOf Tryz.prog 68 = some [.list []] := by kernel_rfl
theorem zrm68 : zrooms Tryz.prog 68 = [.full] := by kernel_rfl
theorem bs68_0 : dbuildSlice Tryz.prog 68 0 [] = some (.list []) := by kernel_rfl
theorem bd127_0_1_2_3_4 (y0 : Int) (y1 : Bool) (y2 : List UInt8) (y3 : List UInt8) (y4_0 : Int) (y4_1 : List UInt8) (y4_2 : Bool) : dbuild Tryz.prog 127 [(0, .int .i64 y0), (1, .bool y1), (2, .str y2), (3, .str y3), (4, .agg [.int .i64 y4_0, .str y4_1, .bool y4_2])] = some (.agg [.int .i64 y0, .bool y1, .str y2, .str y3, .int .i64 y4_0, .str y4_1, .bool y4_2]) := by kernel_rfl
theorem bd127_0_3 (y0 : Int) (y3 : List UInt8) : dbuild Tryz.prog 127 [(0, .int .i64 y0), (3, .str y3)] = some (.agg [.int .i64 y0, .bool false, .str [], .str y3, .int .i64 0, .str [], .bool false]) := by kernel_rfl
theorem bd119_0 (y0 : Int) : dbuild Tryz.prog 119 [(0, .int .i64 y0)] = some (.agg [.int .i64 y0, .int .i64 0, .list []]) := by kernel_rfl
theorem bd91_0_1 (y0_0 : Int) (y0_1 : Int) (y1 : List D) : dbuild Tryz.prog 91 [(0, .agg [.int .i64 y0_0, .int .i64 y0_1]), (1, .list y1)] = some (.agg [.int .i64 y0_0, .int .i64 y0_1, .list y1]) := by kernel_rfl
theorem bs33_1 (y0_0_0 : Int) (y0_0_1 : Int) (y0_1 : List D) : dbuildSlice Tryz.prog 33 1 [(0, .agg [.int .i64 y0_0_0, .int .i64 y0_0_1, .list y0_1])] = some (.list [.agg [.int .i64 y0_0_0, .int .i64 y0_0_1, .list y0_1]]) := by kernel_rfl
theorem bd119_0_1 (y0 : Int) (y1 : Int) : dbuild Tryz.prog 119 [(0, .int .i64 y0), (1, .int .i64 y1)] = some (.agg [.int .i64 y0, .int .i64 y1, .list []]) := by kernel_rfl
theorem bs114_2 (y0_0 : Int) (y0_1 : Int) (y0_2 : List D) (y1_0 : Int) (y1_1 : Int) (y1_2 : List D) : dbuildSlice Tryz.prog 114 2 [(0, .agg [.int .i64 y0_0, .int .i64 y0_1, .list y0_2]), (1, .agg [.int .i64 y1_0, .int .i64 y1_1, .list y1_2])] = some (.list [.agg [.int .i64 y0_0, .int .i64 y0_1, .list y0_2], .agg [.int .i64 y1_0, .int .i64 y1_1, .list y1_2]]) := by kernel_rfl
theorem bd119_0_2 (y0 : Int) (y2 : List D) : dbuild Tryz.prog 119 [(0, .int .i64 y0), (2, .list y2)] = some (.agg [.int .i64 y0, .int .i64 0, .list y2]) := by kernel_rfl
theorem cv3_190 (k : IntKind) (n : Int) : dconv Tryz.prog 3 190 (.int k n) = some (.int .u64 (IntKind.u64.wrap n)) := by kernel_rfl
theorem bs130_1 (y0_0 : Int) (y0_1 : Int) : dbuildSlice Tryz.prog 130 1 [(0, .agg [.int .i64 y0_0, .int .i64 y0_1])] = some (.list [.agg [.int .i64 y0_0, .int .i64 y0_1]]) := by kernel_rfl
theorem bd127_0_1_2_3 (y0 : Int) (y1 : Bool) (y2 : List UInt8) (y3 : List UInt8) : dbuild Tryz.prog 127 [(0, .int .i64 y0), (1, .bool y1), (2, .str y2), (3, .str y3)] = some (.agg [.int .i64 y0, .bool y1, .str y2, .str y3, .int .i64 0, .str [], .bool false]) := by kernel_rfl
theorem bd102_0_1 (y0 : Int) (y1 : List UInt8) : dbuild Tryz.prog 102 [(0, .int .i64 y0), (1, .str y1)] = some (.agg [.int .i64 y0, .str y1, .bool false]) := by kernel_rfl
theorem bd127_0_1_3_4 (y0 : Int) (y1 : Bool) (y3 : List UInt8) (y4_0 : Int) (y4_1 : List UInt8) (y4_2 : Bool) : dbuild Tryz.prog 127 [(0, .int .i64 y0), (1, .bool y1), (3, .str y3), (4, .agg [.int .i64 y4_0, .str y4_1, .bool y4_2])] = some (.agg [.int .i64 y0, .bool y1, .str [], .str y3, .int .i64 y4_0, .str y4_1, .bool y4_2]) := by kernel_rfl
theorem bs31_1 (y0_0 : Int) (y0_1 : Bool) (y0_2 : List UInt8) (y0_3 : List UInt8) (y0_4_0 : Int) (y0_4_1 : List UInt8) (y0_4_2 : Bool) : dbuildSlice Tryz.prog 31 1 [(0, .agg [.int .i64 y0_0, .bool y0_1, .str y0_2, .str y0_3, .int .i64 y0_4_0, .str y0_4_1, .bool y0_4_2])] = some (.list [.agg [.int .i64 y0_0, .bool y0_1, .str y0_2, .str y0_3, .int .i64 y0_4_0, .str y0_4_1, .bool y0_4_2]]) := by kernel_rfl
theorem bs114_1 (y0_0 : Int) (y0_1 : Int) (y0_2 : List D) : dbuildSlice Tryz.prog 114 1 [(0, .agg [.int .i64 y0_0, .int .i64 y0_1, .list y0_2])] = some (.list [.agg [.int .i64 y0_0, .int .i64 y0_1, .list y0_2]]) := by kernel_rfl
theorem bd87_0_3 (y0_0 : List D) (y0_1 : List D) (y0_2 : List D) (y0_3 : List D) (y0_4 : Int) (y3 : List D) : dbuild Tryz.prog 87 [(0, .agg [.list y0_0, .list y0_1, .list y0_2, .list y0_3, .int .i64 y0_4]), (3, .list y3)] = some (.agg [.list y0_0, .list y0_1, .list y0_2, .list y0_3, .int .i64 y0_4, .bool false, .list [], .list [], .list [], .list [], .list y3]) := by kernel_rfl
theorem bs43_1 (y0 : Int) : dbuildSlice Tryz.prog 43 1 [(0, .int .i64 y0)] = some (.list [.int .i64 y0]) := by kernel_rfl
theorem bd111_0 (y0_0 : Bool) (y0_1 : List UInt8) (y0_2 : List D) (y0_3 : List D) : dbuild Tryz.prog 111 [(0, .agg [.bool y0_0, .str y0_1, .list y0_2, .list y0_3])] = some (.agg [.bool y0_0, .str y0_1, .list y0_2, .list y0_3, .list [], .list [], .list [], .list [], .int .i64 0]) := by kernel_rfl
theorem bd36_e  : dbuild Tryz.prog 36 [] = some (.agg [.list [], .list [], .list [], .list [], .int .i64 0]) := by kernel_rfl
theorem bs34_1 (y0 : List D) : dbuildSlice Tryz.prog 34 1 [(0, .list y0)] = some (.list [.list y0]) := by kernel_rfl
theorem bd87_0_1_2 (y0_0 : List D) (y0_1 : List D) (y0_2 : List D) (y0_3 : List D) (y0_4 : Int) (y1_0 : Bool) (y1_1 : List D) (y1_2 : List D) (y1_3 : List D) (y2 : List D) : dbuild Tryz.prog 87 [(0, .agg [.list y0_0, .list y0_1, .list y0_2, .list y0_3, .int .i64 y0_4]), (1, .agg [.bool y1_0, .list y1_1, .list y1_2, .list y1_3]), (2, .list y2)] = some (.agg [.list y0_0, .list y0_1, .list y0_2, .list y0_3, .int .i64 y0_4, .bool y1_0, .list y1_1, .list y1_2, .list y1_3, .list y2, .list []]) := by kernel_rfl
theorem bs42_1 (y0 : Bool) : dbuildSlice Tryz.prog 42 1 [(0, .bool y0)] = some (.list [.bool y0]) := by kernel_rfl
theorem bd45_0 (y0 : Bool) : dbuild Tryz.prog 45 [(0, .bool y0)] = some (.agg [.bool y0, .list [], .list [], .list []]) := by kernel_rfl
theorem bd45_1_2_3 (y1 : List D) (y2 : List D) (y3 : List D) : dbuild Tryz.prog 45 [(1, .list y1), (2, .list y2), (3, .list y3)] = some (.agg [.bool false, .list y1, .list y2, .list y3]) := by kernel_rfl
theorem bd104_e  : dbuild Tryz.prog 104 [] = some (.agg [.int .i64 0, .int .i64 0, .str [], .str [], .int .i64 0, .str [], .bool false, .int .i64 0, .int .i64 0, .int .i64 0, .list []]) := by kernel_rfl
theorem bd102_0 (y0 : Int) : dbuild Tryz.prog 102 [(0, .int .i64 y0)] = some (.agg [.int .i64 y0, .str [], .bool false]) := by kernel_rfl
theorem bd65_0 (y0 : Int) : dbuild Tryz.prog 65 [(0, .int .i64 y0)] = some (.agg [.int .i64 y0, .str []]) := by kernel_rfl
theorem bd65_0_1 (y0 : Int) (y1 : List UInt8) : dbuild Tryz.prog 65 [(0, .int .i64 y0), (1, .str y1)] = some (.agg [.int .i64 y0, .str y1]) := by kernel_rfl
theorem bs68_5 (y0 : Int) (y1 : Int) (y2 : Int) (y3 : Int) (y4 : Int) : dbuildSlice Tryz.prog 68 5 [(0, .int .u8 y0), (1, .int .u8 y1), (2, .int .u8 y2), (3, .int .u8 y3), (4, .int .u8 y4)] = some (.list [.int .u8 y0, .int .u8 y1, .int .u8 y2, .int .u8 y3, .int .u8 y4]) := by kernel_rfl
theorem bd26_e  : dbuild Tryz.prog 26 [] = some (.agg [.bool false, .str [], .list [], .list []]) := by kernel_rfl
theorem bs23_1 (y0 : List D) : dbuildSlice Tryz.prog 23 1 [(0, .list y0)] = some (.list [.list y0]) := by kernel_rfl
theorem bs42_2 (y0 : Bool) (y1 : Bool) : dbuildSlice Tryz.prog 42 2 [(0, .bool y0), (1, .bool y1)] = some (.list [.bool y0, .bool y1]) := by kernel_rfl
theorem bd63_2 (y2 : List UInt8) : dbuild Tryz.prog 63 [(2, .str y2)] = some (.agg [.int .i64 0, .list [], .str y2]) := by kernel_rfl
theorem bd116_0 (y0 : Int) : dbuild Tryz.prog 116 [(0, .int .i64 y0)] = some (.agg [.int .i64 y0, .list []]) := by kernel_rfl
theorem bs61_1 (y0_0 : Int) (y0_1 : List D) : dbuildSlice Tryz.prog 61 1 [(0, .agg [.int .i64 y0_0, .list y0_1])] = some (.list [.agg [.int .i64 y0_0, .list y0_1]]) := by kernel_rfl
theorem bs32_1 (y0_0 : Int) (y0_1 : List D) (y0_2 : List UInt8) : dbuildSlice Tryz.prog 32 1 [(0, .agg [.int .i64 y0_0, .list y0_1, .str y0_2])] = some (.list [.agg [.int .i64 y0_0, .list y0_1, .str y0_2]]) := by kernel_rfl
end Go.Av.Yr
namespace Go.Av.Yx
open Go.Proofs Go.Av
theorem rng1 (f : Nat → Bx) : (List.range 1).map f = [f 0] := rfl
theorem pid0 : pid 0 = 1000000 := rfl
theorem c0e : ((((0 : Nat)) : Int) == 0) = true := rfl
theorem ptrIn_fn3 (f : Fn) (e1 e2 e3 : D) (l : List D) : ptrIn (.func f [] [.fix e1 0, .fix e2 0, .fix e3 0] :: l) = ptrIn l := rfl
theorem mm_max (k k' : IntKind) (a b : Int) : dminmax true [.int k a, .int k' b] = some (.int k (max a b)) := by
  have : (if b > a then b else a) = max a b := by omega
  show some (D.int k (if b > a then b else a)) = _
  rw [this]
theorem mm_min (k k' : IntKind) (a b : Int) : dminmax false [.int k a, .int k' b] = some (.int k (min a b)) := by
  have : (if b < a then b else a) = min a b := by omega
  show some (D.int k (if b < a then b else a)) = _
  rw [this]
end Go.Av.Yx
namespace Go.Av
open Go.Proofs
end Go.Av
namespace Go.Av.Y6
open Go.Proofs Go.Av
theorem ty3 : aggOf Tryz.prog 3 = some false ∧ sizeT Tryz.prog 3 = some 1 ∧ Tryz.prog.underlying 3 = some (.int .i64) := ⟨by kernel_rfl, by kernel_rfl, by kernel_rfl⟩
theorem ty4 : aggOf Tryz.prog 4 = some false ∧ sizeT Tryz.prog 4 = some 1 ∧ Tryz.prog.underlying 4 = some .bool := ⟨by kernel_rfl, by kernel_rfl, by kernel_rfl⟩
theorem ty5 : aggOf Tryz.prog 5 = some false ∧ sizeT Tryz.prog 5 = some 1 ∧ Tryz.prog.underlying 5 = some (.int .u8) := ⟨by kernel_rfl, by kernel_rfl, by kernel_rfl⟩
theorem ty9 : aggOf Tryz.prog 9 = some false ∧ sizeT Tryz.prog 9 = some 1 ∧ Tryz.prog.underlying 9 = some .string := ⟨by kernel_rfl, by kernel_rfl, by kernel_rfl⟩
theorem ty23 : aggOf Tryz.prog 102 = some true ∧ sizeT Tryz.prog 102 = some 3 := ⟨by kernel_rfl, by kernel_rfl⟩
theorem ty25 : elemT Tryz.prog 68 = some 5 ∧ Tryz.prog.underlying 68 = some (.slice 5) := ⟨by kernel_rfl, by kernel_rfl⟩
theorem ty30 : elemT Tryz.prog 42 = some 4 ∧ Tryz.prog.underlying 42 = some (.slice 4) := ⟨by kernel_rfl, by kernel_rfl⟩
theorem ty41 : elemT Tryz.prog 24 = some 9 ∧ Tryz.prog.underlying 24 = some (.slice 9) := ⟨by kernel_rfl, by kernel_rfl⟩
theorem fap0 (k g off : Nat) : dfieldAddr Tryz.prog 102 (.ptr k g off) 0 = some (.ptr k g (off + 0)) := by kernel_rfl
theorem fap1 (k g off : Nat) : dfieldAddr Tryz.prog 102 (.ptr k g off) 1 = some (.ptr k g (off + 1)) := by kernel_rfl
theorem fap2 (k g off : Nat) : dfieldAddr Tryz.prog 102 (.ptr k g off) 2 = some (.ptr k g (off + 2)) := by kernel_rfl
theorem dp3 (cs : List D) (off : Nat) : dpart Tryz.prog 3 cs off = cs[off]? := by simp only [dpart, ty3.1]
theorem dp4 (cs : List D) (off : Nat) : dpart Tryz.prog 4 cs off = cs[off]? := by simp only [dpart, ty4.1]
theorem dp5 (cs : List D) (off : Nat) : dpart Tryz.prog 5 cs off = cs[off]? := by simp only [dpart, ty5.1]
theorem dp9 (cs : List D) (off : Nat) : dpart Tryz.prog 9 cs off = cs[off]? := by simp only [dpart, ty9.1]
theorem dp23 (a b c : D) : dpart Tryz.prog 102 [a, b, c] 0 = some (.agg [a, b, c]) := by simp only [dpart, ty23.1, ty23.2]; rfl
theorem ia25r (k g m : Nat) (ag : Bool) (ki : IntKind) (i : Int) : dindexAddr Tryz.prog 68 (.row k g m 1 ag) (.int ki i) = if 0 ≤ i ∧ i < m then some (.ptr k g (i.toNat * 1)) else none := by
  simp only [dindexAddr, ty25.1, ty5.2.1, and_true]
theorem ia25 (es : List D) (ki : IntKind) (i : Int) : dindexAddr Tryz.prog 68 (.list es) (.int ki i) = if 0 ≤ i ∧ i < es.length then (if (dcells (es.getD i.toNat .bad)).length = 1 then some (.fix (es.getD i.toNat .bad) 0) else none) else none := by
  simp only [dindexAddr, ty25.1, ty5.2.1]
theorem ia30 (es : List D) (ki : IntKind) (i : Int) : dindexAddr Tryz.prog 42 (.list es) (.int ki i) = if 0 ≤ i ∧ i < es.length then (if (dcells (es.getD i.toNat .bad)).length = 1 then some (.fix (es.getD i.toNat .bad) 0) else none) else none := by
  simp only [dindexAddr, ty30.1, ty4.2.1]
theorem ia41 (es : List D) (ki : IntKind) (i : Int) : dindexAddr Tryz.prog 24 (.list es) (.int ki i) = if 0 ≤ i ∧ i < es.length then (if (dcells (es.getD i.toNat .bad)).length = 1 then some (.fix (es.getD i.toNat .bad) 0) else none) else none := by
  simp only [dindexAddr, ty41.1, ty9.2.1]
theorem len9 (l : List UInt8) : dlen Tryz.prog #[9] (.str l) = some (.int .i64 l.length) := by kernel_rfl
theorem len25 (l : List D) : dlen Tryz.prog #[68] (.list l) = some (.int .i64 l.length) := by kernel_rfl
theorem len25r (k g n sz : Nat) (ag : Bool) : dlen Tryz.prog #[68] (.row k g n sz ag) = some (.int .i64 n) := by kernel_rfl
theorem len30 (l : List D) : dlen Tryz.prog #[42] (.list l) = some (.int .i64 l.length) := by kernel_rfl
theorem len41 (l : List D) : dlen Tryz.prog #[24] (.list l) = some (.int .i64 l.length) := by kernel_rfl
theorem ix9 (l : List UInt8) (k : IntKind) (n : Int) : dindex Tryz.prog 9 (.str l) (.int k n) = if 0 ≤ n ∧ n < l.length then some (.int .u8 ((l.getD n.toNat 0).toNat)) else none := by kernel_rfl
theorem sl9 (s : List UInt8) (lo hi : Option D) : dslice Tryz.prog 9 (.str s) lo hi none = (dopt hi s.length s.length).bind fun h => (dopt lo h 0).map fun l => .str ((s.take h).drop l) := by kernel_rfl
theorem cv53 (k : IntKind) (n : Int) : dconv Tryz.prog 5 3 (.int k n) = some (.int .i64 (IntKind.i64.wrap n)) := by kernel_rfl
theorem cv35 (k : IntKind) (n : Int) : dconv Tryz.prog 3 5 (.int k n) = some (.int .u8 (IntKind.u8.wrap n)) := by kernel_rfl
theorem cv925 (l : List UInt8) : dconv Tryz.prog 9 68 (.str l) = some (.list (l.map fun b => .int .u8 b.toNat)) := by kernel_rfl
theorem cv259 (es : List D) : dconv Tryz.prog 68 9 (.list es) = (bytesOf es).map .str := by kernel_rfl
theorem bt25 : bytesT Tryz.prog 68 = true := by kernel_rfl
theorem ap25 (es fs : List D) (r : List Room) : dappend Tryz.prog #[68, 68] (.list es) (.list fs) r = if lenOk (es.length + fs.length) 1 = true ∧ szOk 1 fs = true ∧ szOk 1 es = true ∧ (r = [.full] ∨ r = [.own 5] ∨ r = [.fresh]) then some (.list (es ++ fs), 5) else none := by
  have : (Tryz.prog.info? 5).map (fun i => (infoOk i, i.size, i.bytes)) = some (true, 1, 1) := by kernel_rfl
  obtain ⟨i, hi, h⟩ := Option.map_eq_some_iff.1 this
  injection h with h1 h2
  injection h2 with h2 h3
  simp only [dappend, ty25.1, hi, h1, h2, h3, if_true, true_and]
theorem bt30 : bytesT Tryz.prog 42 = false := by kernel_rfl
theorem ap30 (es fs : List D) (r : List Room) : dappend Tryz.prog #[42, 42] (.list es) (.list fs) r = if lenOk (es.length + fs.length) 1 = true ∧ szOk 1 fs = true ∧ szOk 1 es = true ∧ (r = [.full] ∨ r = [.own 4] ∨ r = [.fresh]) then some (.list (es ++ fs), 4) else none := by
  have : (Tryz.prog.info? 4).map (fun i => (infoOk i, i.size, i.bytes)) = some (true, 1, 1) := by kernel_rfl
  obtain ⟨i, hi, h⟩ := Option.map_eq_some_iff.1 this
  injection h with h1 h2
  injection h2 with h2 h3
  simp only [dappend, ty30.1, hi, h1, h2, h3, if_true, true_and]
theorem bt41 : bytesT Tryz.prog 24 = false := by kernel_rfl
theorem ap41 (es fs : List D) (r : List Room) : dappend Tryz.prog #[24, 24] (.list es) (.list fs) r = if lenOk (es.length + fs.length) 16 = true ∧ szOk 1 fs = true ∧ szOk 1 es = true ∧ (r = [.full] ∨ r = [.own 9] ∨ r = [.fresh]) then some (.list (es ++ fs), 9) else none := by
  have : (Tryz.prog.info? 9).map (fun i => (infoOk i, i.size, i.bytes)) = some (true, 1, 16) := by kernel_rfl
  obtain ⟨i, hi, h⟩ := Option.map_eq_some_iff.1 this
  injection h with h1 h2
  injection h2 with h2 h3
  simp only [dappend, ty41.1, hi, h1, h2, h3, if_true, true_and]
theorem bs25 (k : IntKind) (n : Int) : dbuildSlice Tryz.prog 68 1 [(0, .int k n)] = some (.list [.int k n]) := by kernel_rfl
theorem bs30 (b : Bool) : dbuildSlice Tryz.prog 42 1 [(0, .bool b)] = some (.list [.bool b]) := by kernel_rfl
theorem bs41 (l : List UInt8) : dbuildSlice Tryz.prog 24 1 [(0, .str l)] = some (.list [.str l]) := by kernel_rfl
theorem bs25e : dbuildSlice Tryz.prog 68 0 [] = some (.list []) := by kernel_rfl
theorem bs30e : dbuildSlice Tryz.prog 42 0 [] = some (.list []) := by kernel_rfl
theorem bs41e : dbuildSlice Tryz.prog 24 0 [] = some (.list []) := by kernel_rfl
theorem zr23 : zeroOf Tryz.prog 102 = some [.int .i64 0, .str [], .bool false] := by kernel_rfl
theorem szOk_cons (sz : Nat) (e : D) (es : List D) : szOk sz (e :: es) = ((dcells e).length == sz) := rfl
theorem szOk_nil (sz : Nat) : szOk sz [] = true := rfl
theorem plainR_s (d : D) (r : List Room) : plainR (some (d, r, [])) = some (d, r) := rfl
end Go.Av.Y6
set_option maxRecDepth 100000
namespace Go.Av
open Go.Proofs
theorem An {a b : Prop} (x : a) (y : b) : a ∧ b := ⟨x, y⟩
def AVB_ := PLift.up (An (An (An (An (An (An (An (An @go_nil (An @go_seq @go_cond)) (An @go_block (An @go_blk @go_skip))) (An (An @go_exit (An @go_retc @go_xcode)) (An @go_xblk (An @go_loop @go_region)))) (An (An (An @go_draw (An @go_ops_nil @go_dops_nil)) (An @go_ops (An @go_dops @okG_some))) (An (An @okB_some (An @gwD_bool @gwD_undef)) (An @cwD_bool (An @gw_true @gw_false))))) (An (An (An (An @guardG_none (An @guardG.eq_1 @guardG.eq_2)) (An @opG.eq_1 (An @opD.eq_1 @isPtr.eq_1))) (An (An @isPtr.eq_2 (An @inB.eq_1 @sval.eq_1)) (An @stake.eq_1 (An @eats.eq_1 @eats.eq_2)))) (An (An (An @eaters.eq_1 (An @get.eq_1 @get.eq_2)) (An @get.eq_3 (An @get.eq_4 @cval.eq_1))) (An (An @cval.eq_2 (An @cval1.eq_1 @cval1.eq_2)) (An @cval1.eq_3 (An @cval1.eq_4 @cval1.eq_5)))))) (An (An (An (An (An @cval1.eq_6 (An @cval1.eq_7 @cval1.eq_8)) (An @cval1.eq_9 (An @croom.eq_1 @croom.eq_2))) (An (An @St.taken.eq_1 (An @St.taken.eq_2 @St.taken.eq_3)) (An @put_slot (An @put_room @put_box)))) (An (An (An @put_ctr (An @put_none @dem_none)) (An @dem_slot (An @dem_box @dem_ctr))) (An (An @dem_room (An @dem_room1 @setBox_slot)) (An @setBox_room (An @setBox_ctr @setBox_box))))) (An (An (An (An @entry_slot (An @entry_room @entry_box)) (An @entry_ctr (An @endQ.eq_1 @endQ.eq_2))) (An (An @endR.eq_1 (An @endR.eq_2 @endV.eq_1)) (An @endV.eq_2 (An @rvars.eq_1 @rvars.eq_2)))) (An (An (An @rvar.eq_1 (An @rvar.eq_2 @room1.eq_1)) (An @room1.eq_2 (An @decide_true @decide_false))) (An (An (@List.filterMap_cons.{0, 0}) (An (@List.filterMap_nil.{0, 0}) (@Option.bind_some.{0, 0}))) (An (@Option.map_some.{0, 0}) (An (@Option.bind_none.{0, 0}) (@Option.map_none.{0, 0})))))))) (An (An (An (An (An (An @List.getElem?_cons_zero.{0} (An @List.getElem?_cons_succ.{0} @List.getD_cons_zero.{0})) (An @List.getD_cons_succ.{0} (An @List.contains_cons.{0} @List.contains_nil.{0}))) (An (An (@List.map_cons.{0, 0}) (An (@List.map_nil.{0, 0}) @beq_self_eq_true.{0})) (An @beq_iff_eq.{0} (An @Bool.or_false @Bool.false_or)))) (An (An (An @Bool.or_true (An @Bool.true_or @Bool.and_true)) (An @Bool.true_and (An @Bool.false_eq_true @dbin.eq_1))) (An (An @dbin.eq_2 (An @dbin.eq_3 @dbin.eq_4)) (An @dbin.eq_5 (An @dbin.eq_6 @dbin.eq_7))))) (An (An (An (An @dbin.eq_8 (An @dbin.eq_9 @dbin.eq_10)) (An @dbin.eq_11 (An @okR.eq_1 @okR.eq_2))) (An (An @okR.eq_3 (An @okR.eq_4 @callG.eq_1)) (An @callG.eq_2 (An @endN.eq_1 @endN.eq_2)))) (An (An (An @newV.eq_1 (An @newV.eq_2 @rowS)) (An @frzS (An @frz_nil @frz_cons))) (An (An @frzD.eq_1 (An @frzD.eq_2 @frzD.eq_3)) (An @rowList.eq_1 (An @rowList.eq_2 @rowElem.eq_1)))))) (An (An (An (An (An @stepRow.eq_1 (An @madeRow.eq_1 @isLocal.eq_1)) (An @isAlloc.eq_1 (An @loadsOwn.eq_1 @ptrAt.eq_1))) (An (An @beq_true (An @beq_false @Bool.not_true)) (An @Bool.not_false (An @pureB.eq_1 @pureB.eq_2)))) (An (An (An @leaf.eq_1 (An @leafN.eq_1 @leafN.eq_2)) (An @leafN.eq_3 (An @leafN.eq_4 @leafN.eq_5))) (An (An @leafN.eq_6 (An @leafN.eq_7 @leafN.eq_8)) (An @leafN.eq_9 (An @leafN.eq_10 @List.all_cons.{0}))))) (An (An (An (An @List.all_nil.{0} (An @List.nil_append.{0} @List.cons_append.{0})) (An @List.append_nil.{0} (An @List.take_nil.{0} @List.range_zero))) (An (An @List.length_nil.{0} (An @List.length_cons.{0} @Bool.true_beq)) (An @Bool.false_beq (An @List.find?_cons.{0} @List.find?_nil.{0})))) (An (An (An @dun.eq_1 (An @dun.eq_2 @dun.eq_3)) (An @List.getElem?_nil.{0} (An @List.take_zero.{0} @List.drop_zero.{0}))) (An (An @List.take_succ_cons.{0} (An @List.drop_succ_cons.{0} @dcells.eq_1)) (An (An @dcells.eq_2 @Nat.zero_add) (An @stepBox.eq_1 @Bool.and_false)))))))) (An (An (An (An (An (An (An @Bool.false_and (An @and_true @true_and)) (An @Option.getD_some.{0} (An @List.singleton_append.{0} (@List.map_map.{0, 0, 0})))) (An (An @Int.natCast_nonneg (An @Int.toNat_natCast @and_self)) (An @Nat.mul_one (An @Nat.add_zero @if_true.{0})))) (An (An (An @St.freeze.eq_1 (An @false_or @or_true)) (An @true_or (An @or_false @szOk_cons))) (An (An @szOk_nil (An @List.cons.injEq.{0} @false_and)) (An @and_false (An @forall_const.{0} @List.getElem?_toArray.{0}))))) (An (An (An (An @List.getElem_toArray.{0} (An @dopt.eq_1 @dopt.eq_2)) (An @dbound.eq_1 (An @dbound.eq_2 @ge_iff_le.{0}))) (An (An @gt_iff_lt.{0} (An @dStrBin.eq_1 @dStrBin.eq_2)) (An @dStrBin.eq_3 (An @dStrBin.eq_4 @dStrBin.eq_5)))) (An (An (An @dStrBin.eq_6 (An @dStrBin.eq_7 @dStrBin.eq_8)) (An @List.take_length.{0} (An @plainR_s @isBar.eq_1))) (An (An @optIn.eq_1 (An @optIn.eq_2 @allocKeys.eq_1)) (An @takes.eq_1 (An @ptrArgs.eq_1 @callArgs.eq_1)))))) (An (An (An (An (An @ptrIn_nil (An @ptrIn_int @ptrIn_bool)) (An @ptrIn_str (An @ptrIn_agg @ptrIn_list))) (An (An @ptrIn_fix (An @ptrIn_con @ptrIn_ptr)) (An @ptrIn1.eq_1 (An @ptrIn1.eq_2 @ptrIn1.eq_3)))) (An (An (An @ren.eq_1 (An @ren.eq_2 @ren1.eq_1)) (An @ren1.eq_2 (An @argOk.eq_1 @argOk.eq_2))) (An (An @argOk.eq_3 (An @argOk1.eq_1 @argOk1.eq_2)) (An @given.eq_1 (An @given.eq_2 @oroom.eq_1))))) (An (An (An (An @oroom.eq_2 (An @clearR.eq_1 @clearR.eq_2)) (An @clearR.eq_3 (An @clearR.eq_4 @vroom.eq_1))) (An (An @vroom.eq_2 (An @vroom.eq_3 @nilR.eq_1)) (An @nilR.eq_2 (An @Option.isSome_none.{0} @Option.isSome_some.{0})))) (An (An (An @stepTake.eq_1 (An @stepPtr.eq_1 @notAgg.eq_1)) (An @notAgg.eq_2 (An @ite_self.{0} @ty3))) (An (An @dp3 (An @ty4 @dp4)) (An @ty9 (An @dp9 @ty5))))))) (An (An (An (An (An (An @dp5 (An @ty26 @dp26)) (An @fa26_0 (An @fp26_0 @fa26_1))) (An (An @fp26_1 (An @fa26_2 @fp26_2)) (An @fa26_3 (An @fp26_3 @fa26_4)))) (An (An (An @fp26_4 (An @fa26_5 @fp26_5)) (An @fa26_6 (An @fp26_6 @ty54))) (An (An @dp54 (An @fa54_0 @fp54_0)) (An @fa54_1 (An @fp54_1 @fa54_2))))) (An (An (An (An @fp54_2 (An @zr26 @zr54)) (An @ty22 (An @dp22 @ia22))) (An (An @len22 (An @sl22 @ty23)) (An @dp23 (An @ia23 @len23)))) (An (An (An @sl23 (An @ty24 @dp24)) (An @ia24 (An @len24 @sl24))) (An (An @ty39 (An @dp39 @ia39)) (An @len39 (An @sl39 @ty81)))))) (An (An (An (An (An @dp81 (An @ia81 @len81)) (An @sl81 (An @len9 @eq54))) (An (An @cv981 (An @noEatS @ptrIn_fn0)) (An @ptrIn_fn1 (An @ptrIn_fn2 @Option.some.injEq.{0})))) (An (An (An @zrm26 (An @zrm54 @putR7)) (An @putR3 (An @List.drop_nil.{0} @bd26))) (An (An @ap22 (An @ap39 @bs22e)) (An @bs39e (An @bs39 @bs22))))) (An (An (An (An @dNilEq.eq_1 (An @dNilEq.eq_2 @dNilEq.eq_3)) (An @dNilEq.eq_4 (An @dNilEq.eq_5 @dNilEq.eq_6))) (An (An @dNilEq.eq_7 (An @dNilEq.eq_8 @dNilEq.eq_9)) (An @dNilEq.eq_10 (An @dNilEq.eq_11 @isLit.eq_1)))) (An (An (An @isLit.eq_2 (An @bt39 @bt22)) (An @bt23 (An @bt24 @lenOk_small))) (An (An @barS (An @sbs @nbs)) (An (An @callS @osn) (An @oss @pOkS)))))))))
theorem AVB : type_of% AVB_.down := AVB_.down
def AVY_ := PLift.up (An (An (An (An (An (An (An (An (An @Yr.ty26 @Yr.dp26) (An @Yr.fa26_0 @Yr.fp26_0)) (An (An @Yr.df26_0 @Yr.ty4) (An @Yr.dp4 (An @Yr.sz4 @Yr.fa26_1)))) (An (An (An @Yr.fp26_1 @Yr.df26_1) (An @Yr.ty9 (An @Yr.dp9 @Yr.sz9))) (An (An @Yr.len9 @Yr.fa26_2) (An @Yr.fp26_2 (An @Yr.df26_2 @Yr.ty24))))) (An (An (An (An @Yr.sz24 @Yr.dp24) (An @Yr.ia24 (An @Yr.ir24 @Yr.len24))) (An (An @Yr.lenr24 @Yr.sl24) (An @Yr.bt24 (An @Yr.ap24 @Yr.ra24)))) (An (An (An @Yr.zr24 @Yr.zrm24) (An @Yr.bs24_0 (An @Yr.fa26_3 @Yr.fp26_3))) (An (An @Yr.df26_3 @Yr.zr26) (An @Yr.zrm26 (An @Yr.pr4_0 @Yr.ty65)))))) (An (An (An (An (An @Yr.dp65 @Yr.fa65_0) (An @Yr.fp65_0 (An @Yr.df65_0 @Yr.ty3))) (An (An @Yr.dp3 @Yr.sz3) (An @Yr.fa65_1 (An @Yr.fp65_1 @Yr.df65_1)))) (An (An (An @Yr.zr65 @Yr.zrm65) (An @Yr.pr2_0 (An @Yr.ty104 @Yr.dp104))) (An (An @Yr.fa104_0 @Yr.fp104_0) (An @Yr.df104_0 (An @Yr.fa104_1 @Yr.fp104_1))))) (An (An (An (An @Yr.df104_1 @Yr.fa104_2) (An @Yr.fp104_2 (An @Yr.df104_2 @Yr.fa104_3))) (An (An @Yr.fp104_3 @Yr.df104_3) (An @Yr.fa104_4 (An @Yr.fp104_4 @Yr.ty102)))) (An (An (An @Yr.dp102 @Yr.fa102_0) (An @Yr.fp102_0 (An @Yr.df102_0 @Yr.fa102_1))) (An (An @Yr.fp102_1 @Yr.df102_1) (An @Yr.fa102_2 (An @Yr.fp102_2 @Yr.df102_2))))))) (An (An (An (An (An (An @Yr.zr102 @Yr.zrm102) (An @Yr.pr3_0 (An @Yr.df104_4 @Yr.dp102_4_11))) (An (An @Yr.fa104_5 @Yr.fp104_5) (An @Yr.df104_5 (An @Yr.fa104_6 @Yr.fp104_6)))) (An (An (An @Yr.ty89 @Yr.dp89) (An @Yr.fa89_0 (An @Yr.fp89_0 @Yr.df89_0))) (An (An @Yr.fa89_1 @Yr.fp89_1) (An @Yr.df89_1 (An @Yr.zr89 @Yr.zrm89))))) (An (An (An (An @Yr.df104_6 @Yr.dp89_8_11) (An @Yr.fa104_7 (An @Yr.fp104_7 @Yr.df104_7))) (An (An @Yr.ty59 @Yr.dp59) (An @Yr.fa59_0 (An @Yr.fp59_0 @Yr.df59_0)))) (An (An (An @Yr.ty99 @Yr.dp99) (An @Yr.fa99_0 (An @Yr.fp99_0 @Yr.df99_0))) (An (An @Yr.fa99_1 @Yr.fp99_1) (An @Yr.df99_1 (An @Yr.ty97 @Yr.sz97)))))) (An (An (An (An (An @Yr.dp97 @Yr.ia97) (An @Yr.ir97 (An @Yr.len97 @Yr.lenr97))) (An (An @Yr.sl97 @Yr.bt97) (An @Yr.ap97 (An @Yr.ra97 @Yr.zr97)))) (An (An (An @Yr.zrm97 @Yr.bs97_0) (An @Yr.zr99 (An @Yr.zrm99 @Yr.ty57))) (An (An @Yr.sz57 @Yr.dp57) (An @Yr.ia57 (An @Yr.ir57 @Yr.len57))))) (An (An (An (An @Yr.lenr57 @Yr.sl57) (An @Yr.bt57 (An @Yr.ap57 @Yr.ra57))) (An (An @Yr.zr57 @Yr.zrm57) (An @Yr.bs57_0 (An @Yr.zr59 @Yr.zrm59)))) (An (An (An @Yr.pr1_0 @Yr.ty56) (An @Yr.sz56 (An @Yr.dp56 @Yr.ia56))) (An (An @Yr.ir56 @Yr.len56) (An @Yr.lenr56 (An @Yr.sl56 @Yr.bt56)))))))) (An (An (An (An (An (An (An @Yr.ap56 @Yr.ra56) (An @Yr.zr56 (An @Yr.zrm56 @Yr.bs56_0))) (An (An @Yr.zr104 @Yr.zrm104) (An @Yr.pr11_0 (An @Yr.ty43 @Yr.sz43)))) (An (An (An @Yr.dp43 @Yr.ia43) (An @Yr.ir43 (An @Yr.len43 @Yr.lenr43))) (An (An @Yr.sl43 @Yr.bt43) (An @Yr.ap43 (An @Yr.ra43 @Yr.zr43))))) (An (An (An (An @Yr.zrm43 @Yr.bs43_0) (An @Yr.ty23 (An @Yr.sz23 @Yr.dp23))) (An (An @Yr.ia23 @Yr.ir23) (An @Yr.len23 (An @Yr.lenr23 @Yr.sl23)))) (An (An (An @Yr.bt23 @Yr.ap23) (An @Yr.ra23 (An @Yr.zr23 @Yr.zrm23))) (An (An @Yr.bs23_0 @Yr.ty36) (An @Yr.dp36 (An @Yr.fa36_0 @Yr.fp36_0)))))) (An (An (An (An (An @Yr.df36_0 @Yr.ty127) (An @Yr.dp127 (An @Yr.fa127_0 @Yr.fp127_0))) (An (An @Yr.df127_0 @Yr.fa127_1) (An @Yr.fp127_1 (An @Yr.df127_1 @Yr.fa127_2)))) (An (An (An @Yr.fp127_2 @Yr.df127_2) (An @Yr.fa127_3 (An @Yr.fp127_3 @Yr.df127_3))) (An (An @Yr.fa127_4 @Yr.fp127_4) (An @Yr.df127_4 (An @Yr.dp102_4_7 @Yr.zr127))))) (An (An (An (An @Yr.zrm127 @Yr.pr7_0) (An @Yr.ty31 (An @Yr.sz31 @Yr.dp31))) (An (An @Yr.ia31 @Yr.ir31) (An @Yr.len31 (An @Yr.lenr31 @Yr.sl31)))) (An (An (An @Yr.bt31 @Yr.ap31) (An @Yr.ra31 (An @Yr.zr31 @Yr.zrm31))) (An (An @Yr.bs31_0 @Yr.fa36_1) (An @Yr.fp36_1 (An @Yr.df36_1 @Yr.ty63))))))) (An (An (An (An (An (An @Yr.dp63 @Yr.fa63_0) (An @Yr.fp63_0 (An @Yr.df63_0 @Yr.fa63_1))) (An (An @Yr.fp63_1 @Yr.df63_1) (An @Yr.ty116 (An @Yr.dp116 @Yr.fa116_0)))) (An (An (An @Yr.fp116_0 @Yr.df116_0) (An @Yr.fa116_1 (An @Yr.fp116_1 @Yr.df116_1))) (An (An @Yr.ty119 @Yr.dp119) (An @Yr.fa119_0 (An @Yr.fp119_0 @Yr.df119_0))))) (An (An (An (An @Yr.fa119_1 @Yr.fp119_1) (An @Yr.df119_1 (An @Yr.fa119_2 @Yr.fp119_2))) (An (An @Yr.df119_2 @Yr.zr119) (An @Yr.zrm119 (An @Yr.ty114 @Yr.sz114)))) (An (An (An @Yr.dp114 @Yr.ia114) (An @Yr.ir114 (An @Yr.len114 @Yr.lenr114))) (An (An @Yr.sl114 @Yr.bt114) (An @Yr.ap114 (An @Yr.ra114 @Yr.zr114)))))) (An (An (An (An (An @Yr.zrm114 @Yr.bs114_0) (An @Yr.zr116 (An @Yr.zrm116 @Yr.ty61))) (An (An @Yr.sz61 @Yr.dp61) (An @Yr.ia61 (An @Yr.ir61 @Yr.len61)))) (An (An (An @Yr.lenr61 @Yr.sl61) (An @Yr.bt61 (An @Yr.ap61 @Yr.ra61))) (An (An @Yr.zr61 @Yr.zrm61) (An @Yr.bs61_0 (An @Yr.fa63_2 @Yr.fp63_2))))) (An (An (An (An @Yr.df63_2 @Yr.zr63) (An @Yr.zrm63 (An @Yr.ty32 @Yr.sz32))) (An (An @Yr.dp32 @Yr.ia32) (An @Yr.ir32 (An @Yr.len32 @Yr.lenr32)))) (An (An (An @Yr.sl32 @Yr.bt32) (An @Yr.ap32 (An @Yr.ra32 @Yr.zr32))) (An (An @Yr.zrm32 @Yr.bs32_0) (An @Yr.fa36_2 (An @Yr.fp36_2 @Yr.df36_2))))))))) (An (An (An (An (An (An (An (An @Yr.ty91 @Yr.dp91) (An @Yr.fa91_0 (An @Yr.fp91_0 @Yr.df91_0))) (An (An @Yr.dp89_0_3 @Yr.fa91_1) (An @Yr.fp91_1 (An @Yr.df91_1 @Yr.zr91)))) (An (An (An @Yr.zrm91 @Yr.ty33) (An @Yr.sz33 (An @Yr.dp33 @Yr.ia33))) (An (An @Yr.ir33 @Yr.len33) (An @Yr.lenr33 (An @Yr.sl33 @Yr.bt33))))) (An (An (An (An @Yr.ap33 @Yr.ra33) (An @Yr.zr33 (An @Yr.zrm33 @Yr.bs33_0))) (An (An @Yr.fa36_3 @Yr.fp36_3) (An @Yr.df36_3 (An @Yr.ty34 @Yr.sz34)))) (An (An (An @Yr.dp34 @Yr.ia34) (An @Yr.ir34 (An @Yr.len34 @Yr.lenr34))) (An (An @Yr.sl34 @Yr.bt34) (An @Yr.ap34 (An @Yr.ra34 @Yr.zr34)))))) (An (An (An (An (An @Yr.zrm34 @Yr.bs34_0) (An @Yr.fa36_4 (An @Yr.fp36_4 @Yr.df36_4))) (An (An @Yr.zr36 @Yr.zrm36) (An @Yr.pr5_0 (An @Yr.ty45 @Yr.dp45)))) (An (An (An @Yr.fa45_0 @Yr.fp45_0) (An @Yr.df45_0 (An @Yr.fa45_1 @Yr.fp45_1))) (An (An @Yr.df45_1 @Yr.ty42) (An @Yr.sz42 (An @Yr.dp42 @Yr.ia42))))) (An (An (An (An @Yr.ir42 @Yr.len42) (An @Yr.lenr42 (An @Yr.sl42 @Yr.bt42))) (An (An @Yr.ap42 @Yr.ra42) (An @Yr.zr42 (An @Yr.zrm42 @Yr.bs42_0)))) (An (An (An @Yr.fa45_2 @Yr.fp45_2) (An @Yr.df45_2 (An @Yr.fa45_3 @Yr.fp45_3))) (An (An @Yr.df45_3 @Yr.zr45) (An @Yr.zrm45 (An @Yr.ty39 @Yr.sz39))))))) (An (An (An (An (An (An @Yr.dp39 @Yr.ia39) (An @Yr.ir39 (An @Yr.len39 @Yr.lenr39))) (An (An @Yr.sl39 @Yr.bt39) (An @Yr.ap39 (An @Yr.ra39 @Yr.zr39)))) (An (An (An @Yr.zrm39 @Yr.bs39_0) (An @Yr.ty76 (An @Yr.sz76 @Yr.dp76))) (An (An @Yr.ia76 @Yr.ir76) (An @Yr.len76 (An @Yr.lenr76 @Yr.sl76))))) (An (An (An (An @Yr.bt76 @Yr.ap76) (An @Yr.ra76 (An @Yr.zr76 @Yr.zrm76))) (An (An @Yr.bs76_0 @Yr.ty130) (An @Yr.sz130 (An @Yr.dp130 @Yr.ia130)))) (An (An (An @Yr.ir130 @Yr.len130) (An @Yr.lenr130 (An @Yr.sl130 @Yr.bt130))) (An (An @Yr.ap130 @Yr.ra130) (An @Yr.zr130 (An @Yr.zrm130 @Yr.bs130_0)))))) (An (An (An (An (An @Yr.ty111 @Yr.dp111) (An @Yr.fa111_0 (An @Yr.fp111_0 @Yr.df111_0))) (An (An @Yr.dp26_0_9 @Yr.fa111_1) (An @Yr.fp111_1 (An @Yr.df111_1 @Yr.dp36_4_9)))) (An (An (An @Yr.zr111 @Yr.zrm111) (An @Yr.pr9_0 (An @Yr.ty87 @Yr.dp87))) (An (An @Yr.fa87_0 @Yr.fp87_0) (An @Yr.df87_0 (An @Yr.dp36_0_11 @Yr.fa87_1))))) (An (An (An (An @Yr.fp87_1 @Yr.df87_1) (An @Yr.dp45_5_11 (An @Yr.fa87_2 @Yr.fp87_2))) (An (An @Yr.df87_2 @Yr.fa87_3) (An @Yr.fp87_3 (An @Yr.df87_3 @Yr.zr87)))) (An (An (An @Yr.zrm87 @Yr.ty54) (An @Yr.dp54 (An @Yr.fa54_0 @Yr.fp54_0))) (An (An @Yr.df54_0 @Yr.fa54_1) (An @Yr.fp54_1 (An @Yr.df54_1 @Yr.fa54_2)))))))) (An (An (An (An (An (An (An @Yr.fp54_2 @Yr.df54_2) (An @Yr.fa54_3 (An @Yr.fp54_3 @Yr.df54_3))) (An (An @Yr.fa54_4 @Yr.fp54_4) (An @Yr.df54_4 (An @Yr.ty123 @Yr.dp123)))) (An (An (An @Yr.fa123_0 @Yr.fp123_0) (An @Yr.df123_0 (An @Yr.fa123_1 @Yr.fp123_1))) (An (An @Yr.df123_1 @Yr.fa123_2) (An @Yr.fp123_2 (An @Yr.df123_2 @Yr.zr123))))) (An (An (An (An @Yr.zrm123 @Yr.ty52) (An @Yr.sz52 (An @Yr.dp52 @Yr.ia52))) (An (An @Yr.ir52 @Yr.len52) (An @Yr.lenr52 (An @Yr.sl52 @Yr.bt52)))) (An (An (An @Yr.ap52 @Yr.ra52) (An @Yr.zr52 (An @Yr.zrm52 @Yr.bs52_0))) (An (An @Yr.fa54_5 @Yr.fp54_5) (An @Yr.df54_5 (An @Yr.fa54_6 @Yr.fp54_6)))))) (An (An (An (An (An @Yr.df54_6 @Yr.zr54) (An @Yr.zrm54 (An @Yr.ty22 @Yr.sz22))) (An (An @Yr.dp22 @Yr.ia22) (An @Yr.ir22 (An @Yr.len22 @Yr.lenr22)))) (An (An (An @Yr.sl22 @Yr.bt22) (An @Yr.ap22 (An @Yr.ra22 @Yr.zr22))) (An (An @Yr.zrm22 @Yr.bs22_0) (An @Yr.ty5 (An @Yr.dp5 @Yr.sz5))))) (An (An (An (An @Yr.ty68 @Yr.sz68) (An @Yr.dp68 (An @Yr.ia68 @Yr.ir68))) (An (An @Yr.len68 @Yr.lenr68) (An @Yr.sl68 (An @Yr.bt68 @Yr.ap68)))) (An (An (An @Yr.ra68 @Yr.zr68) (An @Yr.zrm68 (An @Yr.bs68_0 @Yr.bd127_0_1_2_3_4))) (An (An @Yr.bd127_0_3 @Yr.bd119_0) (An @Yr.bd91_0_1 (An @Yr.bs33_1 @Yr.bd119_0_1))))))) (An (An (An (An (An (An @Yr.bs114_2 @Yr.bd119_0_2) (An @Yr.cv3_190 (An @Yr.bs130_1 @Yr.bd127_0_1_2_3))) (An (An @Yr.bd102_0_1 @Yr.bd127_0_1_3_4) (An @Yr.bs31_1 (An @Yr.bs114_1 @Yr.bd87_0_3)))) (An (An (An @Yr.bs43_1 @Yr.bd111_0) (An @Yr.bd36_e (An @Yr.bs34_1 @Yr.bd87_0_1_2))) (An (An @Yr.bs42_1 @Yr.bd45_0) (An @Yr.bd45_1_2_3 (An @Yr.bd104_e @Yr.bd102_0))))) (An (An (An (An @Yr.bd65_0 @Yr.bd65_0_1) (An @Yr.bs68_5 (An @Yr.bd26_e @Yr.bs23_1))) (An (An @Yr.bs42_2 @Yr.bd63_2) (An @Yr.bd116_0 (An @Yr.bs61_1 @Yr.bs32_1)))) (An (An (An @Y6.ty3 @Y6.ty4) (An @Y6.ty5 (An @Y6.ty9 @Y6.ty23))) (An (An @Y6.ty25 @Y6.ty30) (An @Y6.ty41 (An @Y6.fap0 @Y6.fap1)))))) (An (An (An (An (An @Y6.fap2 @Y6.dp3) (An @Y6.dp4 (An @Y6.dp5 @Y6.dp9))) (An (An @Y6.dp23 @Y6.ia25r) (An @Y6.ia25 (An @Y6.ia30 @Y6.ia41)))) (An (An (An @Y6.len9 @Y6.len25) (An @Y6.len25r (An @Y6.len30 @Y6.len41))) (An (An @Y6.ix9 @Y6.sl9) (An @Y6.cv53 (An @Y6.cv35 @Y6.cv925))))) (An (An (An (An @Y6.cv259 @Y6.bt25) (An @Y6.ap25 (An @Y6.bt30 @Y6.ap30))) (An (An @Y6.bt41 @Y6.ap41) (An @Y6.bs25 (An @Y6.bs30 @Y6.bs41)))) (An (An (An @Y6.bs25e @Y6.bs30e) (An @Y6.bs41e (An @Y6.zr23 @Yx.rng1))) (An (An @Yx.pid0 @Yx.c0e) (An @Yx.ptrIn_fn3 (An @Yx.mm_max @Yx.mm_min))))))))))
theorem AVY : type_of% AVY_.down := AVY_.down
def AVL_ := PLift.up (An (An (An (An (An @put_slot @put_room) (An @put_box @put_ctr)) (An (An @put_none @dem_none) (An @dem_slot @dem_box))) (An (An (An @dem_ctr @dem_room) (An @dem_room1 @setBox_slot)) (An (An @setBox_room @setBox_ctr) (An @setBox_box (An @entry_slot @entry_room))))) (An (An (An (An @entry_box @entry_ctr) (An @St.taken.eq_1 @St.taken.eq_2)) (An (An @St.taken.eq_3 @Option.some.injEq.{0}) (An @List.cons.injEq.{0} (@List.map_nil.{0, 0})))) (An (An (An (@List.map_cons.{0, 0}) @beq_self_eq_true.{0}) (An @and_true @true_and)) (An (An @or_true @true_or) (An @or_false (An @false_or @and_self))))))
theorem AVL : type_of% AVL_.down := AVL_.down
def AVH_ := PLift.up (An (An (An @beq_true @beq_false) (An @Bool.not_eq_eq_eq_not (An @Bool.not_true @Bool.not_false))) (An (An @Bool.not_not @decide_eq_true_eq) (An @decide_eq_false_iff_not (An @ge_iff_le.{0} @gt_iff_lt.{0}))))
theorem AVH : type_of% AVH_.down := AVH_.down
variable [Rk]
theorem Q {p q : Prop} (k : q) (h : q → p := by intro k; repeat' (first|simp only [*, -k, AVB, ↓reduceIte, Nat.reduceEqDiff, Nat.reduceLT, Nat.reduceLeDiff, reduceCtorEq, Nat.reduceBEq, String.reduceBEq, Nat.reduceAdd, Nat.reduceSub, Nat.reduceMul, Int.reduceLE, Int.reduceLT, Int.reduceToNat, Int.reduceBEq, Int.reduceBNe, List.zipWith, dIntBin]|refine drW_intro (by kernel_rfl) ?_|refine gw_intro (fun h => ?_) (fun h => ?_) <;> try simp only [AVH] at h|exact k)) : p := h k
theorem W {p : Prop} (h : p := by repeat' (first|simp only [*, AVB, ↓reduceIte, Nat.reduceEqDiff, Nat.reduceLT, Nat.reduceLeDiff, reduceCtorEq, Nat.reduceBEq, String.reduceBEq, Nat.reduceAdd, Nat.reduceSub, Nat.reduceMul, Int.reduceLE, Int.reduceLT, Int.reduceToNat, Int.reduceBEq, Int.reduceBNe, List.zipWith, dIntBin]|refine drW_intro (by kernel_rfl) ?_|refine gw_intro (fun h => ?_) (fun h => ?_) <;> try simp only [AVH] at h)) : p := h
theorem G {p q : Prop} (k : q) (h : p = q := by simp only [*, AVB, ↓reduceIte, Nat.reduceEqDiff, Nat.reduceLT, Nat.reduceLeDiff, reduceCtorEq, Nat.reduceBEq, String.reduceBEq, Nat.reduceAdd, Nat.reduceSub, Nat.reduceMul, Int.reduceLE, Int.reduceLT, Int.reduceToNat, Int.reduceBEq, Int.reduceBNe, List.zipWith, dIntBin]; rfl) : p := by rw [h]; exact k
theorem I {p : Prop} (h : p := by first | (simp only [*, AVB, ↓reduceIte, Nat.reduceEqDiff, Nat.reduceLT, Nat.reduceLeDiff, reduceCtorEq, Nat.reduceBEq, String.reduceBEq, Nat.reduceAdd, Nat.reduceSub, Nat.reduceMul, Int.reduceLE, Int.reduceLT, Int.reduceToNat, Int.reduceBEq, Int.reduceBNe, List.zipWith, dIntBin]; done) | (simp only [*, AVB, ↓reduceIte, Nat.reduceEqDiff, Nat.reduceLT, Nat.reduceLeDiff, reduceCtorEq, Nat.reduceBEq, String.reduceBEq, Nat.reduceAdd, Nat.reduceSub, Nat.reduceMul, Int.reduceLE, Int.reduceLT, Int.reduceToNat, Int.reduceBEq, Int.reduceBNe, List.zipWith, dIntBin]; rfl) | rfl) : p := h
theorem Z {p : Prop} (h : p := by simp only [slotI, *, AVB, ↓reduceIte, Nat.reduceEqDiff, Nat.reduceLT, Nat.reduceLeDiff, reduceCtorEq, Nat.reduceBEq, String.reduceBEq, Nat.reduceAdd, Nat.reduceSub, Nat.reduceMul, Int.reduceLE, Int.reduceLT, Int.reduceToNat, Int.reduceBEq, Int.reduceBNe, List.zipWith, dIntBin]; omega) : p := h
theorem cW {P : Program} {ext : FuncId → List D → List Bx → Option (D × List Room × List Bx)} (m r : Nat) {f : FuncId} {fn : Func} {c : Code} {args : List D} {pbs : List Bx} {R : D × List Room × List Bx} (hf : P.funcs[f]? = some fn)
    (hx : ext f args pbs = none := by exact rfl) (hb : fn.body = some c := by exact rfl) (hm : max args.length fn.ntmps = m := by exact rfl) (hres : resTmps fn = [r] := by exact rfl) (hrs : fn.results.toList = [.tmp r] := by exact rfl) (hn : noTwice [r] = true := by exact rfl) (h : goX P ext m [r] (endQ P [.tmp r] pbs.length R) [.code c] .normal (entry args pbs) := by repeat' (first|simp only [*, AVB, ↓reduceIte, Nat.reduceEqDiff, Nat.reduceLT, Nat.reduceLeDiff, reduceCtorEq, Nat.reduceBEq, String.reduceBEq, Nat.reduceAdd, Nat.reduceSub, Nat.reduceMul, Int.reduceLE, Int.reduceLT, Int.reduceToNat, Int.reduceBEq, Int.reduceBNe, List.zipWith, dIntBin]|refine drW_intro (by kernel_rfl) ?_|refine gw_intro (fun h => ?_) (fun h => ?_) <;> try simp only [AVH] at h)) : callL P ext f args pbs = some R :=
    callK hx hf hb hm hres hrs hn h
theorem Qy {p q : Prop} (k : q) (h : q → p := by intro k; repeat' (first|simp only [*, -k, AVB, AVY, ↓reduceIte, Nat.reduceEqDiff, Nat.reduceLT, Nat.reduceLeDiff, reduceCtorEq, Nat.reduceBEq, String.reduceBEq, Nat.reduceAdd, Nat.reduceSub, Nat.reduceMul, Int.reduceLE, Int.reduceLT, Int.reduceToNat, Int.reduceBEq, Int.reduceBNe, List.zipWith, dIntBin]|refine drW_intro (by kernel_rfl) ?_|refine gw_intro (fun h => ?_) (fun h => ?_) <;> try simp only [AVH] at h|exact k)) : p := h k
theorem Wy {p : Prop} (h : p := by repeat' (first|simp only [*, AVB, AVY, ↓reduceIte, Nat.reduceEqDiff, Nat.reduceLT, Nat.reduceLeDiff, reduceCtorEq, Nat.reduceBEq, String.reduceBEq, Nat.reduceAdd, Nat.reduceSub, Nat.reduceMul, Int.reduceLE, Int.reduceLT, Int.reduceToNat, Int.reduceBEq, Int.reduceBNe, List.zipWith, dIntBin]|refine drW_intro (by kernel_rfl) ?_|refine gw_intro (fun h => ?_) (fun h => ?_) <;> try simp only [AVH] at h)) : p := h
theorem Gy {p q : Prop} (k : q) (h : p = q := by simp only [*, AVB, AVY, ↓reduceIte, Nat.reduceEqDiff, Nat.reduceLT, Nat.reduceLeDiff, reduceCtorEq, Nat.reduceBEq, String.reduceBEq, Nat.reduceAdd, Nat.reduceSub, Nat.reduceMul, Int.reduceLE, Int.reduceLT, Int.reduceToNat, Int.reduceBEq, Int.reduceBNe, List.zipWith, dIntBin]; rfl) : p := by rw [h]; exact k
theorem Iy {p : Prop} (h : p := by first | (simp only [*, AVB, AVY, ↓reduceIte, Nat.reduceEqDiff, Nat.reduceLT, Nat.reduceLeDiff, reduceCtorEq, Nat.reduceBEq, String.reduceBEq, Nat.reduceAdd, Nat.reduceSub, Nat.reduceMul, Int.reduceLE, Int.reduceLT, Int.reduceToNat, Int.reduceBEq, Int.reduceBNe, List.zipWith, dIntBin]; done) | (simp only [*, AVB, AVY, ↓reduceIte, Nat.reduceEqDiff, Nat.reduceLT, Nat.reduceLeDiff, reduceCtorEq, Nat.reduceBEq, String.reduceBEq, Nat.reduceAdd, Nat.reduceSub, Nat.reduceMul, Int.reduceLE, Int.reduceLT, Int.reduceToNat, Int.reduceBEq, Int.reduceBNe, List.zipWith, dIntBin]; rfl) | rfl) : p := h
theorem Zy {p : Prop} (h : p := by simp only [slotI, *, AVB, AVY, ↓reduceIte, Nat.reduceEqDiff, Nat.reduceLT, Nat.reduceLeDiff, reduceCtorEq, Nat.reduceBEq, String.reduceBEq, Nat.reduceAdd, Nat.reduceSub, Nat.reduceMul, Int.reduceLE, Int.reduceLT, Int.reduceToNat, Int.reduceBEq, Int.reduceBNe, List.zipWith, dIntBin]; omega) : p := h
theorem cWy {P : Program} {ext : FuncId → List D → List Bx → Option (D × List Room × List Bx)} (m r : Nat) {f : FuncId} {fn : Func} {c : Code} {args : List D} {pbs : List Bx} {R : D × List Room × List Bx} (hf : P.funcs[f]? = some fn)
    (hx : ext f args pbs = none := by exact rfl) (hb : fn.body = some c := by exact rfl) (hm : max args.length fn.ntmps = m := by exact rfl) (hres : resTmps fn = [r] := by exact rfl) (hrs : fn.results.toList = [.tmp r] := by exact rfl) (hn : noTwice [r] = true := by exact rfl) (h : goX P ext m [r] (endQ P [.tmp r] pbs.length R) [.code c] .normal (entry args pbs) := by repeat' (first|simp only [*, AVB, AVY, ↓reduceIte, Nat.reduceEqDiff, Nat.reduceLT, Nat.reduceLeDiff, reduceCtorEq, Nat.reduceBEq, String.reduceBEq, Nat.reduceAdd, Nat.reduceSub, Nat.reduceMul, Int.reduceLE, Int.reduceLT, Int.reduceToNat, Int.reduceBEq, Int.reduceBNe, List.zipWith, dIntBin]|refine drW_intro (by kernel_rfl) ?_|refine gw_intro (fun h => ?_) (fun h => ?_) <;> try simp only [AVH] at h)) : callL P ext f args pbs = some R :=
    callK hx hf hb hm hres hrs hn h
theorem L {p : Prop} (h : p := by simp only [*, AVL, ↓reduceIte, Nat.reduceEqDiff, Nat.reduceLT, Nat.reduceLeDiff, reduceCtorEq]) : p := h
theorem cK {P : Program} {ext : FuncId → List D → List Bx → Option (D × List Room × List Bx)} (m r : Nat) {f : FuncId} {fn : Func} {c : Code} {args : List D} {pbs : List Bx} {R : D × List Room × List Bx} (hf : P.funcs[f]? = some fn) (h : goX P ext m [r] (endQ P [.tmp r] pbs.length R) [.code c] .normal (entry args pbs))
    (hx : ext f args pbs = none := by exact rfl) (hb : fn.body = some c := by exact rfl) (hm : max args.length fn.ntmps = m := by exact rfl) (hres : resTmps fn = [r] := by exact rfl) (hrs : fn.results.toList = [.tmp r] := by exact rfl) (hn : noTwice [r] = true := by exact rfl) : callL P ext f args pbs = some R :=
  callK hx hf hb hm hres hrs hn h
end Go.Av
namespace Go.Av
open Go.Proofs
variable [Rk] {chk : List D → Bool}
theorem any_drop {α : Type} {xs : List α} {i : Nat} {x : α} (f : α → Bool) (hx : xs[i]? = some x) : (xs.drop i).any f = (f x || (xs.drop (i + 1)).any f) := by
  have h1 : i < xs.length := (List.getElem?_eq_some_iff.1 hx).1
  have e1 : xs[i] = x := (List.getElem?_eq_some_iff.1 hx).2
  rw [List.drop_eq_getElem_cons h1, e1, List.any_cons]
theorem any_end {α : Type} {xs : List α} {i : Nat} (f : α → Bool) (h : xs.length ≤ i) : (xs.drop i).any f = false := by
  rw [List.drop_eq_nil_of_le h]
  rfl
end Go.Av
namespace Go.Av
open Go.Proofs
variable [Rk]
theorem callL_ext {P : Program} [Gs] {ext : Call} {f : FuncId} {args : List D} {pbs : List Bx} {r : D × List Room × List Bx} (h : ext f args pbs = some r) : callL P ext f args pbs = some r :=
  aev_callL (N := 1) (by simp only [aev, h])
variable {chk : List D → Bool}
end Go.Av
namespace Go.Av
open Go.Proofs
variable [Rk] {chk : List D → Bool}
open Go.Proofs.YtaghfmgeccapbaaGreat
def bytesI (s : List UInt8) : List Int := s.map fun b => (b.toNat : Int)
def goodB (s : List UInt8) : Bool := rGood (bytesI s)
theorem bytesI_ok (s : List UInt8) : BytesOK (bytesI s) := by
  intro i hi
  have hi' : i < s.length := by simpa [bytesI] using hi
  have : (bytesI s).getD i 0 = (s[i].toNat : Int) := by simp [bytesI, List.getD, hi']
  rw [this]
  have := s[i].toNat_lt
  omega
theorem bytesI_len (s : List UInt8) : (bytesI s).length = s.length := by simp [bytesI]
theorem bytesI_d (s : List UInt8) : (s.map fun b => D.int .u8 (b.toNat : Int)) = (bytesI s).map (D.int .u8) := by simp [bytesI]
theorem byI_of : ∀ (zs : List Int), BytesOK zs → byI (zs.map (D.int .u8)) = some zs
  | [], _ => rfl
  | z :: r, h => by
    have h0 := h 0 (by simp)
    have hr : BytesOK r := fun i hi => by have := h (i + 1) (by simpa using hi); simpa using this
    simp only [List.getD_cons_zero] at h0
    show (if 0 ≤ z ∧ z < 256 then (byI (r.map (D.int .u8))).map (z :: ·) else none) = _
    rw [if_pos h0, byI_of r hr]
    rfl
theorem good_L (s : List UInt8) (hl : s.length ≤ 140737488355328) : callL Tryz.prog (ext11b chk) 78 [.list (s.map fun b => .int .u8 b.toNat)] [] = some (.bool (goodB s), [], []) := by
  refine callL_ext (ext_in ?_)
  rw [bytesI_d]
  show (match byI ((bytesI s).map (D.int .u8)) with | some zs => if zs.length ≤ 140737488355328 then some (D.bool (rGood zs), ([] : List Room), ([] : List Bx)) else none | none => none) = _
  rw [byI_of _ (bytesI_ok s)]
  show (if (bytesI s).length ≤ 140737488355328 then some (D.bool (rGood (bytesI s)), ([] : List Room), ([] : List Bx)) else none) = _
  rw [if_pos (by rw [bytesI_len]; exact hl)]
  rfl
def sameN (sp nm : List UInt8) (a : At) : Bool := a.sp == sp && a.nm == nm
theorem any_contains (l : List (List UInt8)) (v : List UInt8) : l.any (v == ·) = l.contains v := by
  induction l with
  | nil => rfl
  | cons a r ih => rw [List.any_cons, ih, List.contains_cons]
theorem any_contains2 (l : List (List UInt8)) (v : List UInt8) : l.any (· == v) = l.contains v := by
  rw [← any_contains]
  congr 1
  funext x
  rw [Bool.eq_iff_iff, beq_iff_eq, beq_iff_eq]
  exact eq_comm
set_option maxHeartbeats 4000000 in
theorem has_L (l : List (List UInt8)) (v : List UInt8) (hl : l.length ≤ 140737488355328) : callL Tryz.prog (ext11b chk) 52 [.list (l.map D.str), .str v] [] = some (.bool (l.contains v), [.no], []) := by
  have lN := lenM l D.str
  rw [← any_contains2]
  refine cK 18 4 Tryz.func52 ?_
  have HL := Hd.mk hl
  clear hl
  obtain ⟨R, hR⟩ : ∃ R, Hd (R = l.any (· == v)) := ⟨_, rfl⟩
  rw [← (show R = l.any (· == v) from hR)]
  refine G ?_
  refine loopH (fun st => ∃ i : Nat, i ≤ l.length ∧ st.slot 5 = .int .i64 i ∧ st.slot 0 = .list (l.map D.str) ∧ st.slot 1 = .str v ∧ st.slot 4 = .bool false ∧ st.room 4 = [] ∧ Hd (R = (l.drop i).any (· == v))) (fun st => l.length - slotI st 5) ?_ ?_
  · exact ⟨0, Nat.zero_le _, I, I, I, I, I, hR⟩
  · rintro st K ⟨i, hi, g0, g1, g2, g3, g4, hO⟩ hn hx hr
    have hl : l.length ≤ 140737488355328 := HL
    have hO' : R = (l.drop i).any (· == v) := hO
    by_cases h : i < l.length
    · have g9 : (i : Int) < l.length := by omega
      have hw := wrapS i (by omega)
      obtain ⟨x, hx1⟩ := some_at h
      rw [any_drop _ hx1] at hO'
      have ha := getD_map (f := D.str) hx1
      cases he : (x == v) with
      | true =>
        rw [he, Bool.true_or] at hO'
        subst hO'
        clear hO hn hx hl hx1 hR
        refine G ?_
        exact hr _ W
      | false =>
        rw [he, Bool.false_or] at hO'
        have HO := Hd.mk hO'
        clear hO hO' hx hr hl hx1
        refine G ?_
        exact hn _ ⟨i + 1, h, L, L, L, L, L, HO⟩ Z
    · have g9 : ¬ (i : Int) < l.length := by omega
      rw [any_end _ (by omega)] at hO'
      subst hO'
      clear hO hn hr hl hR
      refine G ?_
      exact hx _ _ W
def stL : List D := stS.map .str
theorem bs24s : dbuildSlice Tryz.prog 24 10 [(0, .str [104, 111, 118, 101, 114]), (1, .str [97, 99, 116, 105, 118, 101]), (2, .str [102, 111, 99, 117, 115]), (3, .str [102, 111, 99, 117, 115, 45, 118, 105, 115, 105, 98, 108, 101]), (4, .str [118, 105, 115, 105, 116, 101, 100]), (5, .str [108, 105, 110, 107]), (6, .str [99, 104, 101, 99, 107, 101, 100]), (7, .str [100, 105, 115, 97, 98, 108, 101, 100]), (8, .str [101, 110, 97, 98, 108, 101, 100]), (9, .str [116, 97, 114, 103, 101, 116])] = some (.list stL) := by kernel_rfl
theorem rstate_L (s : List UInt8) : callL Tryz.prog (ext11b chk) 51 [.str s] [] = some (.bool (stS.contains s), [.no], []) := by
  have h : callL Tryz.prog (ext11b chk) 52 [.list stL, .str s] [] = some (.bool (stS.contains s), [.no], []) := has_L (chk := chk) stS s (by decide)
  generalize stS.contains s = R at *
  refine cK 6 2 Tryz.func51 ?_
  repeat' (first|simp only [*, bs24s, AVB, ↓reduceIte, Nat.reduceEqDiff, Nat.reduceLT, reduceCtorEq, Nat.reduceBEq])
end Go.Av
namespace Go.Av
open Go.Proofs
variable [Rk] {chk : List D → Bool}
def SmallA (a : At) : Prop := a.sp.length ≤ 1000000 ∧ a.nm.length ≤ 1000000 ∧ a.vl.length ≤ 1000000
end Go.Av
namespace Go.Av
open Go.Proofs
variable [Rk] {chk : List D → Bool}
def SmallN (n : Nd) : Prop := n.at_.length ≤ 1000000 ∧ n.st.length ≤ 1000000 ∧ n.nm.length ≤ 1000000 ∧ n.sp.length ≤ 1000000 ∧ n.tx.length ≤ 1000000 ∧ ∀ a ∈ n.at_, SmallA a
end Go.Av
namespace Go.Av
open Go.Proofs
variable [Rk] {chk : List D → Bool}
end Go.Av
namespace Go.Av
open Go.Proofs
variable [Rk] {chk : List D → Bool}
def SmallD (ns : List Nd) : Prop := ns.length ≤ 10000 ∧ ∀ n ∈ ns, SmallN n
theorem SmallD.small {ns : List Nd} (h : SmallD ns) : Small ns := ⟨h.1, fun n hn => ⟨(h.2 n hn).1, (h.2 n hn).2.1⟩⟩
end Go.Av
namespace Go.Av
open Go.Proofs
variable [Rk] {chk : List D → Bool}
end Go.Av
namespace Go.Av
open Go.Proofs
variable [Rk] {chk : List D → Bool}
def zeroN : Nd := ⟨0, 0, [], [], [], [], []⟩
def inB' (ns : List Nd) (n : Int) : Bool := decide (0 ≤ n) && decide (n < ns.length)
def nodeI (ns : List Nd) (n : Int) : Nd := if inB' ns n = true then ns.getD n.toNat zeroN else zeroN
def atsAt (ns : List Nd) (i : Nat) : List At := match ns[i]? with | some n => n.at_ | none => []
def foundF : Option At → List UInt8 × Bool
  | some a => (a.vl, true)
  | none => ([], false)
def valI (ns : List Nd) (n : Int) (sp nm : List UInt8) : List UInt8 × Bool := if elB ns n = true then foundF ((atsAt ns n.toNat).find? (sameN sp nm)) else ([], false)
end Go.Av
namespace Go.Av
open Go.Proofs
variable [Rk] {chk : List D → Bool}
end Go.Av
namespace Go.Av
open Go.Proofs
variable [Rk] {chk : List D → Bool}
end Go.Av
namespace Go.Av
open Go.Proofs
variable [Rk] {chk : List D → Bool}
end Go.Av
namespace Go.Av
open Go.Proofs
variable [Rk] {chk : List D → Bool}
end Go.Av
namespace Go.Av
open Go.Proofs
variable [Rk] {chk : List D → Bool}
end Go.Av
namespace Go.Av
structure Nam where
  has : Bool
  dft : List UInt8
  pre : List (List UInt8)
  sps : List (List UInt8)
def Nam.cs (n : Nam) : List D := [.bool n.has, .str n.dft, .list (n.pre.map .str), .list (n.sps.map .str)]
structure Sf where
  kd : Int
  ns : Int
  pre : List UInt8
  nm : List UInt8
  op : Int
  tx : List UInt8
  fold : Bool
  mark : Int
  a : Int
  b : Int
  of_ : List D
def Sf.d (s : Sf) : D := .agg [.int .i64 s.kd, .int .i64 s.ns, .str s.pre, .str s.nm, .int .i64 s.op, .str s.tx, .bool s.fold, .int .i64 s.mark, .int .i64 s.a, .int .i64 s.b, .list s.of_]
def sf : D → Sf
  | .agg [.int .i64 kd, .int .i64 ns, .str pre, .str nm, .int .i64 op, .str tx, .bool fold, .int .i64 mark, .int .i64 a, .int .i64 b, .list of_] => ⟨kd, ns, pre, nm, op, tx, fold, mark, a, b, of_⟩
  | _ => ⟨0, 0, [], [], 0, [], false, 0, 0, 0, []⟩
def cpD (c : Int) (l : List D) : D := .agg [.int .i64 c, .list l]
def cxD (l : List D) : D := .agg [.list l]
def cpC : D → Int
  | .agg [.int .i64 c, .list _] => c
  | _ => 0
def cpL : D → List D
  | .agg [.int .i64 _, .list l] => l
  | _ => []
def cxL : D → List D
  | .agg [.list l] => l
  | _ => []
def lenB (m : Nat) (l : List D) : Bool := decide (l.length ≤ m)
def cpOk (m : Nat) (S : D → Bool) : D → Bool
  | .agg [.int .i64 _, .list l] => lenB m l && l.all S
  | _ => false
def cxOk (m : Nat) (S : D → Bool) : D → Bool
  | .agg [.list l] => lenB m l && l.all (cpOk m S)
  | _ => false
def lsOk (m : Nat) (S : D → Bool) (l : List D) : Bool := lenB m l && l.all (cxOk m S)
def smOk (m : Nat) : Nat → D → Bool
  | 0, _ => false
  | k + 1, .agg [.int .i64 _, .int .i64 _, .str pre, .str nm, .int .i64 _, .str tx, .bool _, .int .i64 _, .int .i64 _, .int .i64 _, .list of_] =>
    decide (pre.length ≤ m) && decide (nm.length ≤ m) && decide (tx.length ≤ m) && lsOk m (smOk m k) of_
  | _ + 1, _ => false
theorem cpOk_inv {m : Nat} {S : D → Bool} {d : D} (h : cpOk m S d = true) : ∃ c l, d = cpD c l ∧ l.length ≤ m ∧ ∀ s ∈ l, S s = true := by
  unfold cpOk at h
  split at h
  · rename_i c l
    simp only [lenB, Bool.and_eq_true, decide_eq_true_eq, List.all_eq_true] at h
    exact ⟨c, l, rfl, h.1, h.2⟩
  · cases h
theorem cxOk_inv {m : Nat} {S : D → Bool} {d : D} (h : cxOk m S d = true) : ∃ l, d = cxD l ∧ l.length ≤ m ∧ ∀ x ∈ l, cpOk m S x = true := by
  unfold cxOk at h
  split at h
  · rename_i l
    simp only [lenB, Bool.and_eq_true, decide_eq_true_eq, List.all_eq_true] at h
    exact ⟨l, rfl, h.1, h.2⟩
  · cases h
theorem smOk_inv {m k : Nat} {d : D} (h : smOk m (k + 1) d = true) : d = (sf d).d ∧ (sf d).pre.length ≤ m ∧ (sf d).nm.length ≤ m ∧ (sf d).tx.length ≤ m ∧ lsOk m (smOk m k) (sf d).of_ = true := by
  unfold smOk at h
  split at h
  · cases ‹_ = _›
  · rename_i e
    cases e
    simp only [Bool.and_eq_true, decide_eq_true_eq] at h
    exact ⟨rfl, h.1.1.1, h.1.1.2, h.1.2, h.2⟩
  · cases h
def pseudoF (c : D) : List UInt8 := match (cxL c).getLast? with
  | some x => (match (cpL x).getLast? with
    | some s => if (sf s).kd = 13 then (sf s).nm else []
    | none => [])
  | none => []
def spaceF (n : Nam) (p : List UInt8) : List UInt8 × Bool := match n.pre.findIdx? (· == p) with
  | some i => (n.sps.getD i [], true)
  | none => ([], false)
def upsI (ns : List Nd) : Nat → Int → List Int
  | 0, _ => []
  | f + 1, n => if (parI ns n).2 = true then (parI ns n).1 :: upsI ns f (parI ns n).1 else []
def sClass : List UInt8 := [99, 108, 97, 115, 115]
def sId : List UInt8 := [105, 100]
def sHref : List UInt8 := [104, 114, 101, 102]
def sArea : List UInt8 := [97, 114, 101, 97]
end Go.Av
