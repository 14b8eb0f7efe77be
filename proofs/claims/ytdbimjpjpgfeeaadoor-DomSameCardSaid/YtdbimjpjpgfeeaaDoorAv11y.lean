/- Chapter 11: the types, and what simple operations on them come to. -/
import Derived.Test.YtdbimjpjpgfeeaaDoorAv11e
import Derived.Test.YtdbimjpjpgfeeaaDoorAvb
set_option linter.unusedVariables false
set_option linter.unusedSimpArgs false
set_option maxRecDepth 10000
namespace Go.Av
open Go.Proofs
theorem ty3 : aggOf Tryd.prog 3 = some false ∧ sizeT Tryd.prog 3 = some 1 ∧ Tryd.prog.underlying 3 = some (.int .i64) := ⟨by kernel_rfl, by kernel_rfl, by kernel_rfl⟩
theorem dp3 (cs : List D) (off : Nat) : dpart Tryd.prog 3 cs off = cs[off]? := by simp only [dpart, ty3.1]
theorem ty4 : aggOf Tryd.prog 4 = some false ∧ sizeT Tryd.prog 4 = some 1 ∧ Tryd.prog.underlying 4 = some (.bool) := ⟨by kernel_rfl, by kernel_rfl, by kernel_rfl⟩
theorem dp4 (cs : List D) (off : Nat) : dpart Tryd.prog 4 cs off = cs[off]? := by simp only [dpart, ty4.1]
theorem ty9 : aggOf Tryd.prog 9 = some false ∧ sizeT Tryd.prog 9 = some 1 ∧ Tryd.prog.underlying 9 = some (.string) := ⟨by kernel_rfl, by kernel_rfl, by kernel_rfl⟩
theorem dp9 (cs : List D) (off : Nat) : dpart Tryd.prog 9 cs off = cs[off]? := by simp only [dpart, ty9.1]
theorem ty5 : aggOf Tryd.prog 5 = some false ∧ sizeT Tryd.prog 5 = some 1 ∧ Tryd.prog.underlying 5 = some (.int .u8) := ⟨by kernel_rfl, by kernel_rfl, by kernel_rfl⟩
theorem dp5 (cs : List D) (off : Nat) : dpart Tryd.prog 5 cs off = cs[off]? := by simp only [dpart, ty5.1]
theorem ty74 : aggOf Tryd.prog 74 = some false ∧ sizeT Tryd.prog 74 = some 1 ∧ Tryd.prog.underlying 74 = some (.int .i64) := ⟨by kernel_rfl, by kernel_rfl, by kernel_rfl⟩
theorem dp74 (cs : List D) (off : Nat) : dpart Tryd.prog 74 cs off = cs[off]? := by simp only [dpart, ty74.1]
theorem ty26 : aggOf Tryd.prog 26 = some true ∧ sizeT Tryd.prog 26 = some 7 := ⟨by kernel_rfl, by kernel_rfl⟩
theorem dp26 (x0 x1 x2 x3 x4 x5 x6 : D) : dpart Tryd.prog 26 [x0, x1, x2, x3, x4, x5, x6] 0 = some (.agg [x0, x1, x2, x3, x4, x5, x6]) := by simp only [dpart, ty26.1, ty26.2]; rfl
theorem fa26_0 (d : D) (off : Nat) : dfieldAddr Tryd.prog 26 (.fix d off) 0 = some (.fix d (off + 0)) := by kernel_rfl
theorem fp26_0 (k g off : Nat) : dfieldAddr Tryd.prog 26 (.ptr k g off) 0 = some (.ptr k g (off + 0)) := by kernel_rfl
theorem fa26_1 (d : D) (off : Nat) : dfieldAddr Tryd.prog 26 (.fix d off) 1 = some (.fix d (off + 1)) := by kernel_rfl
theorem fp26_1 (k g off : Nat) : dfieldAddr Tryd.prog 26 (.ptr k g off) 1 = some (.ptr k g (off + 1)) := by kernel_rfl
theorem fa26_2 (d : D) (off : Nat) : dfieldAddr Tryd.prog 26 (.fix d off) 2 = some (.fix d (off + 2)) := by kernel_rfl
theorem fp26_2 (k g off : Nat) : dfieldAddr Tryd.prog 26 (.ptr k g off) 2 = some (.ptr k g (off + 2)) := by kernel_rfl
theorem fa26_3 (d : D) (off : Nat) : dfieldAddr Tryd.prog 26 (.fix d off) 3 = some (.fix d (off + 3)) := by kernel_rfl
theorem fp26_3 (k g off : Nat) : dfieldAddr Tryd.prog 26 (.ptr k g off) 3 = some (.ptr k g (off + 3)) := by kernel_rfl
theorem fa26_4 (d : D) (off : Nat) : dfieldAddr Tryd.prog 26 (.fix d off) 4 = some (.fix d (off + 4)) := by kernel_rfl
theorem fp26_4 (k g off : Nat) : dfieldAddr Tryd.prog 26 (.ptr k g off) 4 = some (.ptr k g (off + 4)) := by kernel_rfl
theorem fa26_5 (d : D) (off : Nat) : dfieldAddr Tryd.prog 26 (.fix d off) 5 = some (.fix d (off + 5)) := by kernel_rfl
theorem fp26_5 (k g off : Nat) : dfieldAddr Tryd.prog 26 (.ptr k g off) 5 = some (.ptr k g (off + 5)) := by kernel_rfl
theorem fa26_6 (d : D) (off : Nat) : dfieldAddr Tryd.prog 26 (.fix d off) 6 = some (.fix d (off + 6)) := by kernel_rfl
theorem fp26_6 (k g off : Nat) : dfieldAddr Tryd.prog 26 (.ptr k g off) 6 = some (.ptr k g (off + 6)) := by kernel_rfl
theorem ty54 : aggOf Tryd.prog 54 = some true ∧ sizeT Tryd.prog 54 = some 3 := ⟨by kernel_rfl, by kernel_rfl⟩
theorem dp54 (x0 x1 x2 : D) : dpart Tryd.prog 54 [x0, x1, x2] 0 = some (.agg [x0, x1, x2]) := by simp only [dpart, ty54.1, ty54.2]; rfl
theorem fa54_0 (d : D) (off : Nat) : dfieldAddr Tryd.prog 54 (.fix d off) 0 = some (.fix d (off + 0)) := by kernel_rfl
theorem fp54_0 (k g off : Nat) : dfieldAddr Tryd.prog 54 (.ptr k g off) 0 = some (.ptr k g (off + 0)) := by kernel_rfl
theorem fa54_1 (d : D) (off : Nat) : dfieldAddr Tryd.prog 54 (.fix d off) 1 = some (.fix d (off + 1)) := by kernel_rfl
theorem fp54_1 (k g off : Nat) : dfieldAddr Tryd.prog 54 (.ptr k g off) 1 = some (.ptr k g (off + 1)) := by kernel_rfl
theorem fa54_2 (d : D) (off : Nat) : dfieldAddr Tryd.prog 54 (.fix d off) 2 = some (.fix d (off + 2)) := by kernel_rfl
theorem fp54_2 (k g off : Nat) : dfieldAddr Tryd.prog 54 (.ptr k g off) 2 = some (.ptr k g (off + 2)) := by kernel_rfl
theorem zr26 : zeroOf Tryd.prog 26 = some [.int .i64 0, .int .i64 0, .str [], .str [], .list [], .list [], .str []] := by kernel_rfl
theorem zr54 : zeroOf Tryd.prog 54 = some [.str [], .str [], .str []] := by kernel_rfl
theorem ty22 : elemT Tryd.prog 22 = some 26 ∧ Tryd.prog.underlying 22 = some (.slice 26) ∧ aggOf Tryd.prog 22 = some false := ⟨by kernel_rfl, by kernel_rfl, by kernel_rfl⟩
theorem dp22 (cs : List D) (off : Nat) : dpart Tryd.prog 22 cs off = cs[off]? := by simp only [dpart, ty22.2.2]
theorem ia22 (es : List D) (ki : IntKind) (i : Int) : dindexAddr Tryd.prog 22 (.list es) (.int ki i) = if 0 ≤ i ∧ i < es.length then (if (dcells (es.getD i.toNat .bad)).length = 7 then some (.fix (es.getD i.toNat .bad) 0) else none) else none := by
  simp only [dindexAddr, ty22.1, ty26.2]
theorem len22 (l : List D) : dlen Tryd.prog #[22] (.list l) = some (.int .i64 l.length) := by kernel_rfl
theorem sl22 (es : List D) (lo hi : Option D) : dslice Tryd.prog 22 (.list es) lo hi none = if szOk 7 es = true then (dopt hi es.length es.length).bind fun h => (dopt lo h 0).map fun l => .list ((es.take h).drop l) else none := by kernel_rfl
theorem ty23 : elemT Tryd.prog 23 = some 54 ∧ Tryd.prog.underlying 23 = some (.slice 54) ∧ aggOf Tryd.prog 23 = some false := ⟨by kernel_rfl, by kernel_rfl, by kernel_rfl⟩
theorem dp23 (cs : List D) (off : Nat) : dpart Tryd.prog 23 cs off = cs[off]? := by simp only [dpart, ty23.2.2]
theorem ia23 (es : List D) (ki : IntKind) (i : Int) : dindexAddr Tryd.prog 23 (.list es) (.int ki i) = if 0 ≤ i ∧ i < es.length then (if (dcells (es.getD i.toNat .bad)).length = 3 then some (.fix (es.getD i.toNat .bad) 0) else none) else none := by
  simp only [dindexAddr, ty23.1, ty54.2]
theorem len23 (l : List D) : dlen Tryd.prog #[23] (.list l) = some (.int .i64 l.length) := by kernel_rfl
theorem sl23 (es : List D) (lo hi : Option D) : dslice Tryd.prog 23 (.list es) lo hi none = if szOk 3 es = true then (dopt hi es.length es.length).bind fun h => (dopt lo h 0).map fun l => .list ((es.take h).drop l) else none := by kernel_rfl
theorem ty24 : elemT Tryd.prog 24 = some 9 ∧ Tryd.prog.underlying 24 = some (.slice 9) ∧ aggOf Tryd.prog 24 = some false := ⟨by kernel_rfl, by kernel_rfl, by kernel_rfl⟩
theorem dp24 (cs : List D) (off : Nat) : dpart Tryd.prog 24 cs off = cs[off]? := by simp only [dpart, ty24.2.2]
theorem ia24 (es : List D) (ki : IntKind) (i : Int) : dindexAddr Tryd.prog 24 (.list es) (.int ki i) = if 0 ≤ i ∧ i < es.length then (if (dcells (es.getD i.toNat .bad)).length = 1 then some (.fix (es.getD i.toNat .bad) 0) else none) else none := by
  simp only [dindexAddr, ty24.1, ty9.2.1]
theorem len24 (l : List D) : dlen Tryd.prog #[24] (.list l) = some (.int .i64 l.length) := by kernel_rfl
theorem sl24 (es : List D) (lo hi : Option D) : dslice Tryd.prog 24 (.list es) lo hi none = if szOk 1 es = true then (dopt hi es.length es.length).bind fun h => (dopt lo h 0).map fun l => .list ((es.take h).drop l) else none := by kernel_rfl
theorem ty39 : elemT Tryd.prog 39 = some 3 ∧ Tryd.prog.underlying 39 = some (.slice 3) ∧ aggOf Tryd.prog 39 = some false := ⟨by kernel_rfl, by kernel_rfl, by kernel_rfl⟩
theorem dp39 (cs : List D) (off : Nat) : dpart Tryd.prog 39 cs off = cs[off]? := by simp only [dpart, ty39.2.2]
theorem ia39 (es : List D) (ki : IntKind) (i : Int) : dindexAddr Tryd.prog 39 (.list es) (.int ki i) = if 0 ≤ i ∧ i < es.length then (if (dcells (es.getD i.toNat .bad)).length = 1 then some (.fix (es.getD i.toNat .bad) 0) else none) else none := by
  simp only [dindexAddr, ty39.1, ty3.2.1]
theorem len39 (l : List D) : dlen Tryd.prog #[39] (.list l) = some (.int .i64 l.length) := by kernel_rfl
theorem sl39 (es : List D) (lo hi : Option D) : dslice Tryd.prog 39 (.list es) lo hi none = if szOk 1 es = true then (dopt hi es.length es.length).bind fun h => (dopt lo h 0).map fun l => .list ((es.take h).drop l) else none := by kernel_rfl
theorem ty81 : elemT Tryd.prog 81 = some 5 ∧ Tryd.prog.underlying 81 = some (.slice 5) ∧ aggOf Tryd.prog 81 = some false := ⟨by kernel_rfl, by kernel_rfl, by kernel_rfl⟩
theorem dp81 (cs : List D) (off : Nat) : dpart Tryd.prog 81 cs off = cs[off]? := by simp only [dpart, ty81.2.2]
theorem ia81 (es : List D) (ki : IntKind) (i : Int) : dindexAddr Tryd.prog 81 (.list es) (.int ki i) = if 0 ≤ i ∧ i < es.length then (if (dcells (es.getD i.toNat .bad)).length = 1 then some (.fix (es.getD i.toNat .bad) 0) else none) else none := by
  simp only [dindexAddr, ty81.1, ty5.2.1]
theorem len81 (l : List D) : dlen Tryd.prog #[81] (.list l) = some (.int .i64 l.length) := by kernel_rfl
theorem sl81 (es : List D) (lo hi : Option D) : dslice Tryd.prog 81 (.list es) lo hi none = if szOk 1 es = true then (dopt hi es.length es.length).bind fun h => (dopt lo h 0).map fun l => .list ((es.take h).drop l) else none := by kernel_rfl
theorem len9 (s : List UInt8) : dlen Tryd.prog #[9] (.str s) = some (.int .i64 s.length) := by kernel_rfl
theorem eq54 (a1 a2 a3 b1 b2 b3 : List UInt8) : dStructEq Tryd.prog 54 [.str a1, .str a2, .str a3] [.str b1, .str b2, .str b3] = some (a1 == b1 && (a2 == b2 && (a3 == b3))) := by
  have h : dStructEq Tryd.prog 54 [.str a1, .str a2, .str a3] [.str b1, .str b2, .str b3] = (match some (a1 == b1) with | some true => (match some (a2 == b2) with | some true => (match some (a3 == b3) with | some true => some true | r => r) | r => r) | r => r) := by kernel_rfl
  rw [h]
  cases a1 == b1 <;> cases a2 == b2 <;> cases a3 == b3 <;> rfl
theorem cv981 (l : List UInt8) : dconv Tryd.prog 9 81 (.str l) = some (.list (l.map fun b => .int .u8 b.toNat)) := by kernel_rfl
theorem szOk_cons (sz : Nat) (e : D) (es : List D) : szOk sz (e :: es) = ((dcells e).length == sz) := rfl
theorem szOk_nil (sz : Nat) : szOk sz [] = true := rfl
theorem plainR_s (d : D) (r : List Room) : plainR (some (d, r, [])) = some (d, r) := rfl
end Go.Av
