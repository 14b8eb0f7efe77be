/- Chapter 11: the two tables of package utf8; a closure's boxes are frozen ahead of it. -/
import Derived.Test.YtdbimjpjpgfeeaaDoorAvb
import Derived.Test.YtdbimjpjpgfeeaaDoorProg
import Derived.KernelRfl
import GoSem.PinnedTables
set_option linter.unusedVariables false
set_option linter.unusedSimpArgs false
namespace Go.Av
open Go.Proofs
def firstN (c : Nat) : Nat := Go.Pinned.utf8FirstZ.getD c 0
def firstD : List D := (List.range 256).map fun c => .int .u8 (firstN c : Nat)
def accN : List Nat := [128, 191, 160, 191, 128, 159, 144, 191, 128, 143, 0, 0, 0, 0, 0, 0, 0, 0, 0, 0, 0, 0, 0, 0, 0, 0, 0, 0, 0, 0, 0, 0]
def accD : List D := accN.map fun n => .int .u8 (n : Nat)
def stS : List (List UInt8) := [[104, 111, 118, 101, 114], [97, 99, 116, 105, 118, 101], [102, 111, 99, 117, 115], [102, 111, 99, 117, 115, 45, 118, 105, 115, 105, 98, 108, 101], [118, 105, 115, 105, 116, 101, 100], [108, 105, 110, 107], [99, 104, 101, 99, 107, 101, 100], [100, 105, 115, 97, 98, 108, 101, 100], [101, 110, 97, 98, 108, 101, 100], [116, 97, 114, 103, 101, 116]]
def stD : List D := stS.map .str
def frzOf (op : Op) : List Tmp := match op with
  | .makeFunc (.func 63) _ _ => [4, 5]
  | _ => []
instance g11 : Gs where
  gl := fun g => if g = 1 then .fix (.agg stD) 0 else if g = 2 then .fix (.agg firstD) 0 else if g = 3 then .fix (.agg accD) 0 else .bad
  rowAt := fun _ => false
  frzAt := fun l => match l with
    | _ :: o :: _ => frzOf o.op
    | _ => []
theorem row11 (o : Oper) : Gs.rowAt o = false := rfl
theorem frz11 (o o' : Oper) (l : List Oper) : Gs.frzAt (o :: o' :: l) = frzOf o'.op := rfl
theorem frz11b (o : Oper) : Gs.frzAt [o] = [] := rfl
theorem frz11c : Gs.frzAt [] = [] := rfl
theorem frzOf_def (op : Op) : frzOf op = (match op with
  | .makeFunc (.func 63) _ _ => [4, 5]
  | _ => []) := rfl
theorem frz_nil (s : St) : s.frz [] = s := rfl
theorem frz_cons (s : St) (t : Tmp) (l : List Tmp) : s.frz (t :: l) = (s.freeze t).frz l := rfl
theorem gl2 : Gs.gl 2 = .fix (.agg firstD) 0 := rfl
theorem gl3 : Gs.gl 3 = .fix (.agg accD) 0 := rfl
theorem firstD_at (c : Nat) (h : c < 256) : firstD[c]? = some (.int .u8 (firstN c : Nat)) := by
  unfold firstD
  rw [List.getElem?_map, List.getElem?_range h]
  rfl
theorem firstD_len : firstD.length = 256 := by unfold firstD; simp
end Go.Av
