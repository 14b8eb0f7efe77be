/- Bytes in memory as strings. Over any program. No conditions but those that each law names. -/
import Derived.Test.YtcogfddcdpgpkaaGreatDoorOwn
import Derived.Laws.BytesArg
namespace Go.Proofs.YtcogfddcdpgpkaaGreatDoor
open Go.RowKit

theorem strOfNums_inj {xs ys : List Int} (hx : ∀ i, i < xs.length → 0 ≤ xs.getD i 0 ∧ xs.getD i 0 < 256) (hy : ∀ i, i < ys.length → 0 ≤ ys.getD i 0 ∧ ys.getD i 0 < 256) (h : strOfNums xs = strOfNums ys) : xs = ys := by
  have h1 : (xs.map fun n => UInt8.ofNat n.toNat) = (ys.map fun n => UInt8.ofNat n.toNat) := by
    rw [← strOfNums_data, ← strOfNums_data, h]
  have hl : xs.length = ys.length := by simpa using congrArg List.length h1
  apply List.ext_getElem hl
  intro i hi hi'
  have h2 : UInt8.ofNat (xs[i]).toNat = UInt8.ofNat (ys[i]).toNat := by
    have := congrArg (fun l => l[i]?) h1
    simpa [hi, hi'] using this
  have a := hx i hi
  have b := hy i hi'
  simp [hi, hi'] at a b
  have h3 := congrArg UInt8.toNat h2
  simp at h3
  omega

theorem bytesArr_inj {a b : ByteArray} (h : a.data.toList = b.data.toList) : a = b := by
  cases a
  cases b
  simp only at h
  rw [Array.toList_inj.1 h]
theorem str_eq {xs ys : List Int} (hx : ∀ i, i < xs.length → 0 ≤ xs.getD i 0 ∧ xs.getD i 0 < 256) (hy : ∀ i, i < ys.length → 0 ≤ ys.getD i 0 ∧ ys.getD i 0 < 256) :
    ((strOfNums xs).toList == (strOfNums ys).toList) = decide (xs = ys) := by
  rw [Bool.eq_iff_iff]
  simp only [beq_iff_eq, decide_eq_true_eq]
  refine ⟨fun h => strOfNums_inj hx hy (bytesArr_inj (by rw [← ByteArray.toList_eq, ← ByteArray.toList_eq, h])), fun h => by rw [h]⟩
theorem conv_sl {P : Program} {W : World} {B : Nat} {a : Option Addr} {zs : List Int} {c : Nat} {src dst e : TypeId} (hs : P.underlying src = some (.slice e)) (he : P.underlying e = some (.int .u8))
    (hd : P.underlying dst = some .string) (hsl : Sl W B a (zs.map (Value.int .u8))) : (convert src dst (.slice a zs.length c)).run P W = .ok (.string (strOfNums zs)) W := by
  cases zs with
  | nil =>
    show (convert src dst (.slice a 0 c)).run P W = _
    rw [run_convert_bytes_string W src dst e _ 0 c hs he hd]
    cases a <;> simp [Conv.bytesToString, loadCells]
    all_goals rfl
  | cons z r =>
    obtain ⟨b, off, rfl, _, hc⟩ := hsl.int (i := 0) (by simp)
    exact run_convert_bytes_arg W src e hs he b off _ c _ rfl hc dst hd
end Go.Proofs.YtcogfddcdpgpkaaGreatDoor
