/- Chapter 1's door: the two tables of package utf8; which rows are written to: none. -/
import Derived.Test.YtliflodflpecmaaDoorAvb
import Derived.Test.YtliflodflpecmaaDoorProg
import Derived.KernelRfl
import GoSem.PinnedTables
set_option linter.unusedVariables false
set_option linter.unusedSimpArgs false
namespace Go.Av
open Go.Proofs
def firstN (c : Nat) : Nat := Go.Pinned.utf8FirstZ.getD c 0
def firstD : List D := (List.range 256).map fun c => .int .u8 (firstN c : Nat)
def accN : List Nat := [128, 191, 160, 191, 128, 159, 144, 191, 128, 143, 0, 0, 0, 0, 0, 0, 0, 0, 0, 0, 0, 0, 0, 0, 0, 0, 0, 0, 0, 0, 0, 0]
def accD : List D := accN.map fun n => .int .u8 (n : Nat)
instance g1 : Gs where
  gl := fun g => if g = 0 then .fix (.agg firstD) 0 else if g = 1 then .fix (.agg accD) 0 else .bad
  rowAt := fun _ => false
  frzAt := fun _ => []
theorem row1 (o : Oper) : Gs.rowAt o = false := rfl
theorem frz1 (l : List Oper) : Gs.frzAt l = [] := rfl
theorem frz_nil (s : St) : s.frz [] = s := rfl
theorem frz_cons (s : St) (t : Tmp) (l : List Tmp) : s.frz (t :: l) = (s.freeze t).frz l := rfl
theorem gl0 : Gs.gl 0 = .fix (.agg firstD) 0 := rfl
theorem gl1 : Gs.gl 1 = .fix (.agg accD) 0 := rfl
theorem firstD_at (c : Nat) (h : c < 256) : firstD[c]? = some (.int .u8 (firstN c : Nat)) := by
  unfold firstD
  rw [List.getElem?_map, List.getElem?_range h]
  rfl
theorem firstD_len : firstD.length = 256 := by unfold firstD; simp
end Go.Av
