/- Chapter 1's door: the types, and what simple operations on them come to. -/
import Derived.Test.YtliflodflpecmaaDoorAv1g
set_option linter.unusedVariables false
set_option linter.unusedSimpArgs false
set_option maxRecDepth 10000
namespace Go.Av
open Go.Proofs
theorem ty3 : aggOf Tryd.prog 3 = some false ∧ sizeT Tryd.prog 3 = some 1 ∧ Tryd.prog.underlying 3 = some (.int .i64) := ⟨by kernel_rfl, by kernel_rfl, by kernel_rfl⟩
theorem ty4 : aggOf Tryd.prog 4 = some false ∧ sizeT Tryd.prog 4 = some 1 ∧ Tryd.prog.underlying 4 = some .bool := ⟨by kernel_rfl, by kernel_rfl, by kernel_rfl⟩
theorem ty5 : aggOf Tryd.prog 5 = some false ∧ sizeT Tryd.prog 5 = some 1 ∧ Tryd.prog.underlying 5 = some (.int .u8) := ⟨by kernel_rfl, by kernel_rfl, by kernel_rfl⟩
theorem ty22 : elemT Tryd.prog 22 = some 5 ∧ Tryd.prog.underlying 22 = some (.slice 5) := ⟨by kernel_rfl, by kernel_rfl⟩
theorem ty52 : elemT Tryd.prog 52 = none ∧ Tryd.prog.underlying 52 = some (.array 256 5) := ⟨by kernel_rfl, by kernel_rfl⟩
theorem ty54 : aggOf Tryd.prog 54 = some true ∧ sizeT Tryd.prog 54 = some 2 := ⟨by kernel_rfl, by kernel_rfl⟩
theorem ty55 : elemT Tryd.prog 55 = none ∧ Tryd.prog.underlying 55 = some (.array 16 54) := ⟨by kernel_rfl, by kernel_rfl⟩
theorem fap0 (k g off : Nat) : dfieldAddr Tryd.prog 54 (.ptr k g off) 0 = some (.ptr k g (off + 0)) := by kernel_rfl
theorem fap1 (k g off : Nat) : dfieldAddr Tryd.prog 54 (.ptr k g off) 1 = some (.ptr k g (off + 1)) := by kernel_rfl
theorem dp3 (cs : List D) (off : Nat) : dpart Tryd.prog 3 cs off = cs[off]? := by simp only [dpart, ty3.1]
theorem dp4 (cs : List D) (off : Nat) : dpart Tryd.prog 4 cs off = cs[off]? := by simp only [dpart, ty4.1]
theorem dp5 (cs : List D) (off : Nat) : dpart Tryd.prog 5 cs off = cs[off]? := by simp only [dpart, ty5.1]
theorem dp54 (cs : List D) (off : Nat) : dpart Tryd.prog 54 cs off = if off + 2 ≤ cs.length then some (.agg ((cs.drop off).take 2)) else none := by simp only [dpart, ty54.1, ty54.2]
theorem ia22 (es : List D) (ki : IntKind) (i : Int) : dindexAddr Tryd.prog 22 (.list es) (.int ki i) = if 0 ≤ i ∧ i < es.length then (if (dcells (es.getD i.toNat .bad)).length = 1 then some (.fix (es.getD i.toNat .bad) 0) else none) else none := by
  simp only [dindexAddr, ty22.1, ty5.2.1]
theorem ia52 (d : D) (off : Nat) (ki : IntKind) (i : Int) : dindexAddr Tryd.prog 52 (.fix d off) (.int ki i) = if 0 ≤ i ∧ i < 256 then some (.fix d (off + i.toNat * 1)) else none := by
  simp only [dindexAddr, ty52.1, ty52.2, ty5.2.1]
  rfl
theorem ia55 (d : D) (off : Nat) (ki : IntKind) (i : Int) : dindexAddr Tryd.prog 55 (.fix d off) (.int ki i) = if 0 ≤ i ∧ i < 16 then some (.fix d (off + i.toNat * 2)) else none := by
  simp only [dindexAddr, ty55.1, ty55.2, ty54.2]
  rfl
theorem len22 (l : List D) : dlen Tryd.prog #[22] (.list l) = some (.int .i64 l.length) := by kernel_rfl
theorem sl22 (es : List D) (lo hi : Option D) : dslice Tryd.prog 22 (.list es) lo hi none = if szOk 1 es = true then (dopt hi es.length es.length).bind fun h => (dopt lo h 0).map fun l => .list ((es.take h).drop l) else none := by kernel_rfl
theorem sl22m (es : List D) (lo : Option D) (h m : D) : dslice Tryd.prog 22 (.list es) lo (some h) (some m) = if szOk 1 es = true ∧ dbound m es.length = some es.length then (dopt (some h) es.length es.length).bind fun h => (dopt lo h 0).map fun l => .list ((es.take h).drop l) else none := by
  simp only [dslice, ty22.2, ty5.2.1, Option.isSome_some, and_true]
theorem cv53 (k : IntKind) (n : Int) : dconv Tryd.prog 5 3 (.int k n) = some (.int .i64 (IntKind.i64.wrap n)) := by kernel_rfl
theorem cv512 (k : IntKind) (n : Int) : dconv Tryd.prog 5 12 (.int k n) = some (.int .u64 (IntKind.u64.wrap n)) := by kernel_rfl
theorem cv576 (k : IntKind) (n : Int) : dconv Tryd.prog 5 76 (.int k n) = some (.int .u64 (IntKind.u64.wrap n)) := by kernel_rfl
theorem cv7612 (k : IntKind) (n : Int) : dconv Tryd.prog 76 12 (.int k n) = some (.int .u64 (IntKind.u64.wrap n)) := by kernel_rfl
theorem zr54 : zeroOf Tryd.prog 54 = some [.int .u8 0, .int .u8 0] := by kernel_rfl
theorem szOk_cons (sz : Nat) (e : D) (es : List D) : szOk sz (e :: es) = ((dcells e).length == sz) := rfl
theorem szOk_nil (sz : Nat) : szOk sz [] = true := rfl
theorem plainR_s (d : D) (r : List Room) : plainR (some (d, r, [])) = some (d, r) := rfl
theorem szU8 (rs : List Int) : szOk 1 (rs.map (D.int .u8)) = true := by cases rs <;> rfl
theorem ib_add (k : IntKind) (a b : Int) : dIntBin .add k a b = some (.int k (k.wrap (a + b))) := rfl
theorem ib_sub (k : IntKind) (a b : Int) : dIntBin .sub k a b = some (.int k (k.wrap (a - b))) := rfl
theorem ib_eql (k : IntKind) (a b : Int) : dIntBin .eql k a b = some (.bool (a == b)) := rfl
theorem ib_neq (k : IntKind) (a b : Int) : dIntBin .neq k a b = some (.bool (a != b)) := rfl
theorem ib_lss (k : IntKind) (a b : Int) : dIntBin .lss k a b = some (.bool (decide (a < b))) := rfl
theorem ib_leq (k : IntKind) (a b : Int) : dIntBin .leq k a b = some (.bool (decide (a ≤ b))) := rfl
theorem ib_gtr (k : IntKind) (a b : Int) : dIntBin .gtr k a b = some (.bool (decide (a > b))) := rfl
theorem ib_geq (k : IntKind) (a b : Int) : dIntBin .geq k a b = some (.bool (decide (a ≥ b))) := rfl
theorem and_8 (a b : Int) : dIntBin .and .u8 a b = some (.int .u8 (bits .and .u8 a b)) := rfl
theorem shl8 (a : Int) : dShift .shl .u64 a 8 = some (.int .u64 (IntKind.u64.wrap (a * 256))) := rfl
theorem shl16 (a : Int) : dShift .shl .u64 a 16 = some (.int .u64 (IntKind.u64.wrap (a * 65536))) := rfl
theorem shl24 (a : Int) : dShift .shl .u64 a 24 = some (.int .u64 (IntKind.u64.wrap (a * 16777216))) := rfl
theorem shl32 (a : Int) : dShift .shl .u64 a 32 = some (.int .u64 (IntKind.u64.wrap (a * 4294967296))) := rfl
theorem shl40 (a : Int) : dShift .shl .u64 a 40 = some (.int .u64 (IntKind.u64.wrap (a * 1099511627776))) := rfl
theorem shl48 (a : Int) : dShift .shl .u64 a 48 = some (.int .u64 (IntKind.u64.wrap (a * 281474976710656))) := rfl
theorem shl56 (a : Int) : dShift .shl .u64 a 56 = some (.int .u64 (IntKind.u64.wrap (a * 72057594037927936))) := rfl
theorem takeM (rs : List Int) : (rs.map (D.int .u8)).take rs.length = rs.map (D.int .u8) := by rw [← List.length_map (D.int .u8), List.take_length]
theorem and_w (a b : Int) : dIntBin .and .u64 a b = some (.int .u64 (bits .and .u64 a b)) := rfl
theorem or_w (a b : Int) : dIntBin .or .u64 a b = some (.int .u64 (bits .or .u64 a b)) := rfl
end Go.Av
