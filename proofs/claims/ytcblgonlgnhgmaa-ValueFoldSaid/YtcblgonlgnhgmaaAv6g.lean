/- Chapter 6: which rows are written to. -/
import Derived.Test.YtcblgonlgnhgmaaAvM
import Derived.Test.YtcblgonlgnhgmaaProg
import Derived.KernelRfl
set_option linter.unusedVariables false
set_option linter.unusedSimpArgs false
namespace Go.Av
open Go.Proofs
def frzOf (d : Tmp) (op : Op) : List Tmp := match op with
  | .move (.tmp n) => if (n == 3 && d == 23) = true then [3] else []
  | .fieldAddr t _ i => if (t == 23 && i == 2 && d == 43) = true then [5] else []
  | _ => []
instance g6 : Gs where
  gl := fun _ => .bad
  rowAt := fun o => match o.op with | .convert s d _ => s == 9 && d == 25 | _ => false
  frzAt := fun l => match l with
    | o :: _ => (match o.dst with | some d => frzOf d o.op | none => [])
    | [] => []
  gx := [(0, fun d => ∃ m : Int, d = .fix (.int .i64 m) 0)]
theorem row6 (o : Oper) : Gs.rowAt o = (match o.op with | .convert s d _ => s == 9 && d == 25 | _ => false) := rfl
theorem frz6 (o : Oper) (l : List Oper) : Gs.frzAt (o :: l) = (match o.dst with | some d => frzOf d o.op | none => []) := rfl
theorem frzOf_def (d : Tmp) (op : Op) : frzOf d op = (match op with
  | .move (.tmp n) => if (n == 3 && d == 23) = true then [3] else []
  | .fieldAddr t _ i => if (t == 23 && i == 2 && d == 43) = true then [5] else []
  | _ => []) := rfl
theorem frz_nil (s : St) : s.frz [] = s := rfl
theorem frz_cons (s : St) (t : Tmp) (l : List Tmp) : s.frz (t :: l) = (s.freeze t).frz l := rfl
end Go.Av
