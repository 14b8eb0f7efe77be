/- Chapter 2: which rows are written to; a table of math/bits. -/
import Derived.Test.YtpdcnjlmnilipaaDoorAvb
import Derived.Test.YtpdcnjlmnilipaaDoorProg
import Derived.KernelRfl
set_option linter.unusedVariables false
set_option linter.unusedSimpArgs false
namespace Go.Av
open Go.Proofs
def frzOf (d : Tmp) (op : Op) : List Tmp := match op with
  | .move (.tmp n) => if (n == 3 && d == 23) = true then [3] else []
  | _ => []
def TabD (d : D) : Prop := ∃ l : List Int, d = .fix (.agg (l.map (D.int .u8))) 0 ∧ l[15]? = some 4
instance g2 : Gs where
  gl := fun _ => .bad
  rowAt := fun o => match o.op with | .convert s d _ => s == 9 && d == 25 && o.dst == some 7 | _ => false
  frzAt := fun l => match l with
    | o :: _ => (match o.dst with | some d => frzOf d o.op | none => [])
    | [] => []
  gx := [(3, TabD)]
theorem row2 (o : Oper) : Gs.rowAt o = (match o.op with | .convert s d _ => s == 9 && d == 25 && o.dst == some 7 | _ => false) := rfl
theorem frz2 (o : Oper) (l : List Oper) : Gs.frzAt (o :: l) = (match o.dst with | some d => frzOf d o.op | none => []) := rfl
theorem frzOf_def (d : Tmp) (op : Op) : frzOf d op = (match op with
  | .move (.tmp n) => if (n == 3 && d == 23) = true then [3] else []
  | _ => []) := rfl
theorem frz_nil (s : St) : s.frz [] = s := rfl
theorem frz_cons (s : St) (t : Tmp) (l : List Tmp) : s.frz (t :: l) = (s.freeze t).frz l := rfl
end Go.Av
