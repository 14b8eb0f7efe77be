/- Chapter 6: the types, and what simple operations on them come to. -/
import Derived.Test.YtcblgonlgnhgmaaAv6e
set_option linter.unusedVariables false
set_option linter.unusedSimpArgs false
set_option maxRecDepth 10000
namespace Go.Av
open Go.Proofs
theorem ty3 : aggOf Try.prog 3 = some false ∧ sizeT Try.prog 3 = some 1 ∧ Try.prog.underlying 3 = some (.int .i64) := ⟨by kernel_rfl, by kernel_rfl, by kernel_rfl⟩
theorem ty4 : aggOf Try.prog 4 = some false ∧ sizeT Try.prog 4 = some 1 ∧ Try.prog.underlying 4 = some .bool := ⟨by kernel_rfl, by kernel_rfl, by kernel_rfl⟩
theorem ty5 : aggOf Try.prog 5 = some false ∧ sizeT Try.prog 5 = some 1 ∧ Try.prog.underlying 5 = some (.int .u8) := ⟨by kernel_rfl, by kernel_rfl, by kernel_rfl⟩
theorem ty9 : aggOf Try.prog 9 = some false ∧ sizeT Try.prog 9 = some 1 ∧ Try.prog.underlying 9 = some .string := ⟨by kernel_rfl, by kernel_rfl, by kernel_rfl⟩
theorem ty23 : aggOf Try.prog 23 = some true ∧ sizeT Try.prog 23 = some 3 := ⟨by kernel_rfl, by kernel_rfl⟩
theorem ty25 : elemT Try.prog 25 = some 5 ∧ Try.prog.underlying 25 = some (.slice 5) := ⟨by kernel_rfl, by kernel_rfl⟩
theorem ty28 : elemT Try.prog 28 = some 23 ∧ Try.prog.underlying 28 = some (.slice 23) := ⟨by kernel_rfl, by kernel_rfl⟩
theorem ty30 : elemT Try.prog 30 = some 4 ∧ Try.prog.underlying 30 = some (.slice 4) := ⟨by kernel_rfl, by kernel_rfl⟩
theorem ty41 : elemT Try.prog 41 = some 9 ∧ Try.prog.underlying 41 = some (.slice 9) := ⟨by kernel_rfl, by kernel_rfl⟩
theorem fap0 (k g off : Nat) : dfieldAddr Try.prog 23 (.ptr k g off) 0 = some (.ptr k g (off + 0)) := by kernel_rfl
theorem fap1 (k g off : Nat) : dfieldAddr Try.prog 23 (.ptr k g off) 1 = some (.ptr k g (off + 1)) := by kernel_rfl
theorem fap2 (k g off : Nat) : dfieldAddr Try.prog 23 (.ptr k g off) 2 = some (.ptr k g (off + 2)) := by kernel_rfl
theorem dp3 (cs : List D) (off : Nat) : dpart Try.prog 3 cs off = cs[off]? := by simp only [dpart, ty3.1]
theorem dp4 (cs : List D) (off : Nat) : dpart Try.prog 4 cs off = cs[off]? := by simp only [dpart, ty4.1]
theorem dp5 (cs : List D) (off : Nat) : dpart Try.prog 5 cs off = cs[off]? := by simp only [dpart, ty5.1]
theorem dp9 (cs : List D) (off : Nat) : dpart Try.prog 9 cs off = cs[off]? := by simp only [dpart, ty9.1]
theorem dp23 (a b c : D) : dpart Try.prog 23 [a, b, c] 0 = some (.agg [a, b, c]) := by simp only [dpart, ty23.1, ty23.2]; rfl
theorem ia25r (k g m : Nat) (ag : Bool) (ki : IntKind) (i : Int) : dindexAddr Try.prog 25 (.row k g m 1 ag) (.int ki i) = if 0 ≤ i ∧ i < m then some (.ptr k g (i.toNat * 1)) else none := by
  simp only [dindexAddr, ty25.1, ty5.2.1, and_true]
theorem ia25 (es : List D) (ki : IntKind) (i : Int) : dindexAddr Try.prog 25 (.list es) (.int ki i) = if 0 ≤ i ∧ i < es.length then (if (dcells (es.getD i.toNat .bad)).length = 1 then some (.fix (es.getD i.toNat .bad) 0) else none) else none := by
  simp only [dindexAddr, ty25.1, ty5.2.1]
theorem ia28 (es : List D) (ki : IntKind) (i : Int) : dindexAddr Try.prog 28 (.list es) (.int ki i) = if 0 ≤ i ∧ i < es.length then (if (dcells (es.getD i.toNat .bad)).length = 3 then some (.fix (es.getD i.toNat .bad) 0) else none) else none := by
  simp only [dindexAddr, ty28.1, ty23.2]
theorem ia30 (es : List D) (ki : IntKind) (i : Int) : dindexAddr Try.prog 30 (.list es) (.int ki i) = if 0 ≤ i ∧ i < es.length then (if (dcells (es.getD i.toNat .bad)).length = 1 then some (.fix (es.getD i.toNat .bad) 0) else none) else none := by
  simp only [dindexAddr, ty30.1, ty4.2.1]
theorem ia41 (es : List D) (ki : IntKind) (i : Int) : dindexAddr Try.prog 41 (.list es) (.int ki i) = if 0 ≤ i ∧ i < es.length then (if (dcells (es.getD i.toNat .bad)).length = 1 then some (.fix (es.getD i.toNat .bad) 0) else none) else none := by
  simp only [dindexAddr, ty41.1, ty9.2.1]
theorem len9 (l : List UInt8) : dlen Try.prog #[9] (.str l) = some (.int .i64 l.length) := by kernel_rfl
theorem len25 (l : List D) : dlen Try.prog #[25] (.list l) = some (.int .i64 l.length) := by kernel_rfl
theorem len25r (k g n sz : Nat) (ag : Bool) : dlen Try.prog #[25] (.row k g n sz ag) = some (.int .i64 n) := by kernel_rfl
theorem len28 (l : List D) : dlen Try.prog #[28] (.list l) = some (.int .i64 l.length) := by kernel_rfl
theorem len30 (l : List D) : dlen Try.prog #[30] (.list l) = some (.int .i64 l.length) := by kernel_rfl
theorem len41 (l : List D) : dlen Try.prog #[41] (.list l) = some (.int .i64 l.length) := by kernel_rfl
theorem ix9 (l : List UInt8) (k : IntKind) (n : Int) : dindex Try.prog 9 (.str l) (.int k n) = if 0 ≤ n ∧ n < l.length then some (.int .u8 ((l.getD n.toNat 0).toNat)) else none := by kernel_rfl
theorem sl9 (s : List UInt8) (lo hi : Option D) : dslice Try.prog 9 (.str s) lo hi none = (dopt hi s.length s.length).bind fun h => (dopt lo h 0).map fun l => .str ((s.take h).drop l) := by kernel_rfl
theorem cv53 (k : IntKind) (n : Int) : dconv Try.prog 5 3 (.int k n) = some (.int .i64 (IntKind.i64.wrap n)) := by kernel_rfl
theorem cv35 (k : IntKind) (n : Int) : dconv Try.prog 3 5 (.int k n) = some (.int .u8 (IntKind.u8.wrap n)) := by kernel_rfl
theorem cv925 (l : List UInt8) : dconv Try.prog 9 25 (.str l) = some (.list (l.map fun b => .int .u8 b.toNat)) := by kernel_rfl
theorem cv259 (es : List D) : dconv Try.prog 25 9 (.list es) = (bytesOf es).map .str := by kernel_rfl
theorem ap25 (es fs : List D) (r : List Room) : dappend Try.prog #[25, 25] (.list es) (.list fs) r = if es.length + fs.length ≤ 1073741824 ∧ szOk 1 fs = true ∧ szOk 1 es = true ∧ (r = [.full] ∨ r = [.own 5]) then some (.list (es ++ fs), 5) else none := by
  have : (Try.prog.info? 5).map (fun i => (infoOk i, i.size)) = some (true, 1) := by kernel_rfl
  obtain ⟨i, hi, h⟩ := Option.map_eq_some_iff.1 this
  injection h with h1 h2
  simp only [dappend, ty25.1, hi, h1, h2, if_true, true_and]
theorem ap30 (es fs : List D) (r : List Room) : dappend Try.prog #[30, 30] (.list es) (.list fs) r = if es.length + fs.length ≤ 1073741824 ∧ szOk 1 fs = true ∧ szOk 1 es = true ∧ (r = [.full] ∨ r = [.own 4]) then some (.list (es ++ fs), 4) else none := by
  have : (Try.prog.info? 4).map (fun i => (infoOk i, i.size)) = some (true, 1) := by kernel_rfl
  obtain ⟨i, hi, h⟩ := Option.map_eq_some_iff.1 this
  injection h with h1 h2
  simp only [dappend, ty30.1, hi, h1, h2, if_true, true_and]
theorem ap41 (es fs : List D) (r : List Room) : dappend Try.prog #[41, 41] (.list es) (.list fs) r = if es.length + fs.length ≤ 1073741824 ∧ szOk 1 fs = true ∧ szOk 1 es = true ∧ (r = [.full] ∨ r = [.own 9]) then some (.list (es ++ fs), 9) else none := by
  have : (Try.prog.info? 9).map (fun i => (infoOk i, i.size)) = some (true, 1) := by kernel_rfl
  obtain ⟨i, hi, h⟩ := Option.map_eq_some_iff.1 this
  injection h with h1 h2
  simp only [dappend, ty41.1, hi, h1, h2, if_true, true_and]
theorem bs25 (k : IntKind) (n : Int) : dbuildSlice Try.prog 25 1 [(0, .int k n)] = some (.list [.int k n]) := by kernel_rfl
theorem bs30 (b : Bool) : dbuildSlice Try.prog 30 1 [(0, .bool b)] = some (.list [.bool b]) := by kernel_rfl
theorem bs41 (l : List UInt8) : dbuildSlice Try.prog 41 1 [(0, .str l)] = some (.list [.str l]) := by kernel_rfl
theorem bs25e : dbuildSlice Try.prog 25 0 [] = some (.list []) := by kernel_rfl
theorem bs30e : dbuildSlice Try.prog 30 0 [] = some (.list []) := by kernel_rfl
theorem bs41e : dbuildSlice Try.prog 41 0 [] = some (.list []) := by kernel_rfl
theorem zr23 : zeroOf Try.prog 23 = some [.int .i64 0, .str [], .bool false] := by kernel_rfl
theorem szOk_cons (sz : Nat) (e : D) (es : List D) : szOk sz (e :: es) = ((dcells e).length == sz) := rfl
theorem szOk_nil (sz : Nat) : szOk sz [] = true := rfl
theorem plainR_s (d : D) (r : List Room) : plainR (some (d, r, [])) = some (d, r) := rfl
end Go.Av
