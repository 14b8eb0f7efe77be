/- What the laws are told of the slices that came in. Over any program. No conditions. -/
import Derived.Test.YtliflodflpecmaaOwn
import Derived.OpenShut
namespace Go.Proofs.Ytliflodflpecmaa
open Go.RowKit

/-- What a walk is told of a slice of integers that came in: it is nil; or it leads to a row of 'cap' cells, the numbers 'zs' (the first 'len' are its elements, the rest its spare room), each fitting its kind. -/
def IsRow (k : IntKind) (w : World) (a : Option Addr) (len cap : Nat) (zs : List Int) : Prop :=
  (a = none ∧ len = 0 ∧ cap = 0 ∧ zs = []) ∨
  ∃ x, a = some x ∧ len ≤ cap ∧ cap ≤ maxLen ∧ zs.length = cap ∧ (∀ i, i < zs.length → w.cell? (x.add i) = some (.int k (zs.getD i 0))) ∧ ∀ n ∈ zs, (Lit.int k n).wf = true

theorem IsRow.open_ {k : IntKind} {w : World} {a : Option Addr} {len cap : Nat} {zs : List Int} (h : IsRow k w a len cap zs) :
    ∃ l : List Int, len = l.length ∧ len ≤ cap ∧ Sl w w.heap.size a (l.map (Value.int k)) ∧ ∀ n ∈ l, (Lit.int k n).wf = true := by
  rcases h with ⟨rfl, rfl, rfl, rfl⟩ | ⟨x, rfl, h1, h2, h3, h4, h5⟩
  · exact ⟨[], rfl, Nat.le_refl _, Sl.nil, fun n hn => by cases hn⟩
  · refine ⟨zs.take len, by simp; omega, h1, fun hne => ?_, fun n hn => h5 n (List.mem_of_mem_take hn)⟩
    have hpos : 0 < zs.length := by
      apply Classical.byContradiction
      intro hz
      have : zs = [] := List.length_eq_zero_iff.1 (by omega)
      subst this
      simp at hne
    obtain ⟨b, off, rfl, hc⟩ := ints_at h4 hpos
    refine ⟨b, off, rfl, ?_, fun i hi => ?_⟩
    · have := hc 0 hpos
      apply Classical.byContradiction
      intro hb
      have hn : w.heap[b]? = none := Array.getElem?_eq_none (by omega)
      simp [World.cell?, hn] at this
    · simp at hi
      rw [hc i (by omega)]
      simp [show i < zs.length by omega]
theorem bytes_of_wf {l : List Int} (h : ∀ n ∈ l, (Lit.int .u8 n).wf = true) : ∀ i, i < l.length → 0 ≤ l.getD i 0 ∧ l.getD i 0 < 256 := by
  intro i hi
  have := bounds_u8 (h (l.getD i 0) (by simp [hi]))
  omega
theorem ints_of_wf {l : List Int} (h : ∀ n ∈ l, (Lit.int .i64 n).wf = true) : ∀ n ∈ l, -9223372036854775808 ≤ n ∧ n ≤ 9223372036854775807 := by
  intro n hn
  have := h n hn
  simp [Lit.wf, IntKind.min, IntKind.max, IntKind.signed, IntKind.bits] at this
  omega
end Go.Proofs.Ytliflodflpecmaa
