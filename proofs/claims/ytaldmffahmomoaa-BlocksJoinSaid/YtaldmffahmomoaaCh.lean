/- The walk of decode's Chars. Conditions: the slice reads as bytes. -/
import Derived.Test.YtaldmffahmomoaaFi
import Derived.Test.YtaldmffahmomoaaChecked
import Derived.Test.YtaldmffahmomoaaOwn
namespace Go.Proofs.Ytaldmffahmomoaa
open Go.RowKit

theorem Try.eiInts : EI Try.prog 44 3 1 8 := EI.mk (z := .int .i64 0) (by kernel_rfl) (by kernel_rfl) rfl (by decide)
theorem Try.eiBytes : EI Try.prog 22 5 1 1 := EI.mk (z := .int .u8 0) (by kernel_rfl) (by kernel_rfl) rfl (by decide)

theorem BytesOK.drop {zs : List Int} (h : BytesOK zs) (k : Nat) : BytesOK (zs.drop k) := fun i hi => by
  simp at hi
  have := h (k + i) (by omega)
  simpa [List.getD_eq_getElem?_getD] using this

theorem dropMark_cons_ne {d : Int} {ds : List Int} (h : (d == 65279) = false) : dropMark (d :: ds) = d :: ds := by
  simp at h
  simp [dropMark, h]
theorem dropMark_cons_eq {d : Int} {ds : List Int} (h : (d == 65279) = true) : dropMark (d :: ds) = ds := by
  simp at h
  simp [dropMark, h]

theorem RetL.tail1 {k : IntKind} {w w' : World} {d : Int} {ds l : List Int} {m : Nat} {A : Option Addr} (hm : (d :: ds).length = m) (hl : l = ds) (h1 : m ≤ 1) (hb : Below w.heap.size w w') :
    RetL k w l (.returned (.slice A (m - 1) 0)) w' := by
  subst hm hl
  have : l = [] := List.length_eq_zero_iff.1 (by simp only [List.length_cons] at h1; omega)
  subst this
  exact ⟨A, 0, rfl, by simp, Sl.nil, hb⟩
theorem RetL.tail2 {k : IntKind} {w w' : World} {d : Int} {ds l : List Int} {m c b off base : Nat} {t : TypeId} (hm : (d :: ds).length = m) (hl : l = ds)
    (ho : OwnL w' base t k (.slice (some ⟨b, off, none⟩) m c) (d :: ds)) (hb : Below w.heap.size w w') :
    RetL k w l (.returned (.slice (some ⟨b, off + 1, none⟩) (m - 1) (c - 1))) w' := by
  subst hm hl
  have hc := ho.len.2
  refine ⟨some ⟨b, off + 1, none⟩, c - 1, by simp, by simp at hc; omega, fun hne => ?_, hb⟩
  obtain ⟨b', off', h1, h2, h3⟩ := ho.sl.int (i := 0) (by simp)
  injection h1 with h1
  injection h1 with h4 h5
  subst h4 h5
  refine ⟨b, off + 1, rfl, h2, fun i hi => ?_⟩
  simp at hi
  have := h3 (i + 1) (by simp; omega)
  rw [Nat.add_assoc, Nat.add_comm 1 i, this]
  simp [hi]

end Go.Proofs.Ytaldmffahmomoaa
