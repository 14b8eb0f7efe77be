/- Chapter 2: the types, and what simple operations on them come to. -/
import Derived.Test.YtpdcnjlmnilipaaDoorAv2e
set_option linter.unusedVariables false
set_option linter.unusedSimpArgs false
set_option maxRecDepth 10000
namespace Go.Av
open Go.Proofs
theorem ty3 : aggOf Tryd.prog 3 = some false ∧ sizeT Tryd.prog 3 = some 1 ∧ Tryd.prog.underlying 3 = some (.int .i64) := ⟨by kernel_rfl, by kernel_rfl, by kernel_rfl⟩
theorem ty4 : aggOf Tryd.prog 4 = some false ∧ sizeT Tryd.prog 4 = some 1 ∧ Tryd.prog.underlying 4 = some .bool := ⟨by kernel_rfl, by kernel_rfl, by kernel_rfl⟩
theorem ty5 : aggOf Tryd.prog 5 = some false ∧ sizeT Tryd.prog 5 = some 1 ∧ Tryd.prog.underlying 5 = some (.int .u8) := ⟨by kernel_rfl, by kernel_rfl, by kernel_rfl⟩
theorem ty9 : aggOf Tryd.prog 9 = some false ∧ sizeT Tryd.prog 9 = some 1 ∧ Tryd.prog.underlying 9 = some .string := ⟨by kernel_rfl, by kernel_rfl, by kernel_rfl⟩
theorem ty25 : elemT Tryd.prog 25 = some 5 ∧ Tryd.prog.underlying 25 = some (.slice 5) := ⟨by kernel_rfl, by kernel_rfl⟩
theorem ty26 : elemT Tryd.prog 26 = some 9 ∧ Tryd.prog.underlying 26 = some (.slice 9) := ⟨by kernel_rfl, by kernel_rfl⟩
theorem dp3 (cs : List D) (off : Nat) : dpart Tryd.prog 3 cs off = cs[off]? := by simp only [dpart, ty3.1]
theorem dp4 (cs : List D) (off : Nat) : dpart Tryd.prog 4 cs off = cs[off]? := by simp only [dpart, ty4.1]
theorem dp5 (cs : List D) (off : Nat) : dpart Tryd.prog 5 cs off = cs[off]? := by simp only [dpart, ty5.1]
theorem dp9 (cs : List D) (off : Nat) : dpart Tryd.prog 9 cs off = cs[off]? := by simp only [dpart, ty9.1]
theorem ia25r (k g m : Nat) (ag : Bool) (ki : IntKind) (i : Int) : dindexAddr Tryd.prog 25 (.row k g m 1 ag) (.int ki i) = if 0 ≤ i ∧ i < m then some (.ptr k g (i.toNat * 1)) else none := by
  simp only [dindexAddr, ty25.1, ty5.2.1, and_true]
theorem ia25 (es : List D) (ki : IntKind) (i : Int) : dindexAddr Tryd.prog 25 (.list es) (.int ki i) = if 0 ≤ i ∧ i < es.length then (if (dcells (es.getD i.toNat .bad)).length = 1 then some (.fix (es.getD i.toNat .bad) 0) else none) else none := by
  simp only [dindexAddr, ty25.1, ty5.2.1]
theorem ia26 (es : List D) (ki : IntKind) (i : Int) : dindexAddr Tryd.prog 26 (.list es) (.int ki i) = if 0 ≤ i ∧ i < es.length then (if (dcells (es.getD i.toNat .bad)).length = 1 then some (.fix (es.getD i.toNat .bad) 0) else none) else none := by
  simp only [dindexAddr, ty26.1, ty9.2.1]
theorem len9 (l : List UInt8) : dlen Tryd.prog #[9] (.str l) = some (.int .i64 l.length) := by kernel_rfl
theorem len25 (l : List D) : dlen Tryd.prog #[25] (.list l) = some (.int .i64 l.length) := by kernel_rfl
theorem len25r (k g n sz : Nat) (ag : Bool) : dlen Tryd.prog #[25] (.row k g n sz ag) = some (.int .i64 n) := by kernel_rfl
theorem len26 (l : List D) : dlen Tryd.prog #[26] (.list l) = some (.int .i64 l.length) := by kernel_rfl
theorem ix9 (l : List UInt8) (k : IntKind) (n : Int) : dindex Tryd.prog 9 (.str l) (.int k n) = if 0 ≤ n ∧ n < l.length then some (.int .u8 ((l.getD n.toNat 0).toNat)) else none := by kernel_rfl
theorem sl9 (s : List UInt8) (lo hi : Option D) : dslice Tryd.prog 9 (.str s) lo hi none = (dopt hi s.length s.length).bind fun h => (dopt lo h 0).map fun l => .str ((s.take h).drop l) := by kernel_rfl
theorem cv53 (k : IntKind) (n : Int) : dconv Tryd.prog 5 3 (.int k n) = some (.int .i64 (IntKind.i64.wrap n)) := by kernel_rfl
theorem cv35 (k : IntKind) (n : Int) : dconv Tryd.prog 3 5 (.int k n) = some (.int .u8 (IntKind.u8.wrap n)) := by kernel_rfl
theorem cv925 (l : List UInt8) : dconv Tryd.prog 9 25 (.str l) = some (.list (l.map fun b => .int .u8 b.toNat)) := by kernel_rfl
theorem cv259 (es : List D) : dconv Tryd.prog 25 9 (.list es) = (bytesOf es).map .str := by kernel_rfl
theorem ap25 (es fs : List D) (r : List Room) : dappend Tryd.prog #[25, 25] (.list es) (.list fs) r = if es.length + fs.length ≤ 1073741824 ∧ szOk 1 fs = true ∧ szOk 1 es = true ∧ (r = [.full] ∨ r = [.own 5]) then some (.list (es ++ fs), 5) else none := by
  have : (Tryd.prog.info? 5).map (fun i => (infoOk i, i.size)) = some (true, 1) := by kernel_rfl
  obtain ⟨i, hi, h⟩ := Option.map_eq_some_iff.1 this
  injection h with h1 h2
  simp only [dappend, ty25.1, hi, h1, h2, if_true, true_and]
theorem ap26 (es fs : List D) (r : List Room) : dappend Tryd.prog #[26, 26] (.list es) (.list fs) r = if es.length + fs.length ≤ 1073741824 ∧ szOk 1 fs = true ∧ szOk 1 es = true ∧ (r = [.full] ∨ r = [.own 9]) then some (.list (es ++ fs), 9) else none := by
  have : (Tryd.prog.info? 9).map (fun i => (infoOk i, i.size)) = some (true, 1) := by kernel_rfl
  obtain ⟨i, hi, h⟩ := Option.map_eq_some_iff.1 this
  injection h with h1 h2
  simp only [dappend, ty26.1, hi, h1, h2, if_true, true_and]
theorem bs25 (k : IntKind) (n : Int) : dbuildSlice Tryd.prog 25 1 [(0, .int k n)] = some (.list [.int k n]) := by kernel_rfl
theorem bs26 (l : List UInt8) : dbuildSlice Tryd.prog 26 1 [(0, .str l)] = some (.list [.str l]) := by kernel_rfl
theorem bs25e : dbuildSlice Tryd.prog 25 0 [] = some (.list []) := by kernel_rfl
theorem bs26e : dbuildSlice Tryd.prog 26 0 [] = some (.list []) := by kernel_rfl
theorem szOk_cons (sz : Nat) (e : D) (es : List D) : szOk sz (e :: es) = ((dcells e).length == sz) := rfl
theorem szOk_nil (sz : Nat) : szOk sz [] = true := rfl
theorem plainR_s (d : D) (r : List Room) : plainR (some (d, r, [])) = some (d, r) := rfl
theorem ty35 : elemT Tryd.prog 35 = some 3 ∧ Tryd.prog.underlying 35 = some (.slice 3) := ⟨by kernel_rfl, by kernel_rfl⟩
theorem ia35 (es : List D) (ki : IntKind) (i : Int) : dindexAddr Tryd.prog 35 (.list es) (.int ki i) = if 0 ≤ i ∧ i < es.length then (if (dcells (es.getD i.toNat .bad)).length = 1 then some (.fix (es.getD i.toNat .bad) 0) else none) else none := by
  simp only [dindexAddr, ty35.1, ty3.2.1]
theorem len35 (l : List D) : dlen Tryd.prog #[35] (.list l) = some (.int .i64 l.length) := by kernel_rfl
theorem ap35 (es fs : List D) (r : List Room) : dappend Tryd.prog #[35, 35] (.list es) (.list fs) r = if es.length + fs.length ≤ 1073741824 ∧ szOk 1 fs = true ∧ szOk 1 es = true ∧ (r = [.full] ∨ r = [.own 3]) then some (.list (es ++ fs), 3) else none := by
  have : (Tryd.prog.info? 3).map (fun i => (infoOk i, i.size)) = some (true, 1) := by kernel_rfl
  obtain ⟨i, hi, h⟩ := Option.map_eq_some_iff.1 this
  injection h with h1 h2
  simp only [dappend, ty35.1, hi, h1, h2, if_true, true_and]
theorem bs35 (k : IntKind) (n : Int) : dbuildSlice Tryd.prog 35 1 [(0, .int k n)] = some (.list [.int k n]) := by kernel_rfl
theorem bs35e : dbuildSlice Tryd.prog 35 0 [] = some (.list []) := by kernel_rfl
theorem bs25_2 (k : IntKind) (a b : Int) : dbuildSlice Tryd.prog 25 2 [(0, .int k a), (1, .int k b)] = some (.list [.int k a, .int k b]) := by kernel_rfl
theorem bs25_3 (k : IntKind) (a b c : Int) : dbuildSlice Tryd.prog 25 3 [(0, .int k a), (1, .int k b), (2, .int k c)] = some (.list [.int k a, .int k b, .int k c]) := by kernel_rfl
theorem bs25_4 (k : IntKind) (a b c d : Int) : dbuildSlice Tryd.prog 25 4 [(0, .int k a), (1, .int k b), (2, .int k c), (3, .int k d)] = some (.list [.int k a, .int k b, .int k c, .int k d]) := by kernel_rfl
theorem bs26_2 (a b : List UInt8) : dbuildSlice Tryd.prog 26 2 [(0, .str a), (1, .str b)] = some (.list [.str a, .str b]) := by kernel_rfl
theorem szI64 (rs : List Int) : szOk 1 (rs.map (D.int .i64)) = true := by cases rs <;> rfl
theorem szU8 (rs : List Int) : szOk 1 (rs.map (D.int .u8)) = true := by cases rs <;> rfl
end Go.Av
