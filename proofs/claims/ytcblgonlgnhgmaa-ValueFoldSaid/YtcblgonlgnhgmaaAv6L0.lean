/- What the laws of this seat share: the memory at a call's beginning; arguments of their types. No conditions. -/
import Derived.Test.YtcblgonlgnhgmaaAv6wc
import Derived.Test.YtcblgonlgnhgmaaAvO
import Derived.WalkKit
import Derived.ProofKit
set_option linter.unusedVariables false
set_option linter.unusedSimpArgs false
namespace Go.Proofs.Ytcblgonlgnhgmaa
open Go.Av Go.ChangeShapes Go.WideShapes Go.RowKit

theorem own : ownKnob Try.prog.godebug = none := by kernel_rfl
theorem laidOut : laidOutB Try.prog = true := by kernel_rfl
theorem row0 : ((begin Try.prog (fun _ _ => 0) default).world.heap[0]?).bind Obj.row? = some (#[.int .i64 0], 3) := by kernel_rfl
theorem maxLen_some (W : World) (h : W.ShapedOpen Try.prog) : ∃ m, W.cell? ⟨0, 0, none⟩ = some (.int .i64 m) :=
  cell_of_shapedOpen_int h (of_decide_eq_true (by kernel_rfl)) row0 rfl (by kernel_rfl) (by kernel_rfl) Try.underlying3
theorem gok6 (W : World) (h : W.ShapedOpen Try.prog) : GOK (old W) W := by
  refine ⟨fun g => .inl rfl, fun x hx => ?_⟩
  obtain rfl : x = (0, fun d => ∃ m : Int, d = D.fix (.int .i64 m) 0) := by simpa using (show x ∈ [(0, fun d => ∃ m : Int, d = D.fix (.int .i64 m) 0)] from hx)
  obtain ⟨m, hm⟩ := maxLen_some W h
  refine ⟨_, ⟨m, rfl⟩, ?_⟩
  refine Den0.fix (.int .i64 m) 0 0 0 [.int .i64 m] rfl (fun i v hv => ?_) (fun i v x hv hx => ?_)
  · cases i with
    | zero => simp at hv; subst hv; exact ⟨cell_old hm, hm, rfl⟩
    | succ i => simp at hv
  · cases i with
    | zero => simp [dcells] at hv hx; subst hv; subst hx; exact .int _ _
    | succ i => simp at hv
def condTy : Ty := .agg [.int .i64, .str, .bool]
theorem cond_ok {d : D} (h : TyOk condTy d) : ∃ op t fold, d = condD op t fold ∧ t.length ≤ maxLen := by
  cases h with
  | agg ts ds hl h =>
    match ds, hl with
    | [a, b, c], _ =>
      have h0 := h 0 _ _ rfl rfl
      have h1 := h 1 _ _ rfl rfl
      have h2 := h 2 _ _ rfl rfl
      cases h0; cases h1; cases h2
      exact ⟨_, _, _, rfl, by assumption⟩
theorem str_ok {d : D} (h : TyOk .str d) : ∃ s, d = .str s ∧ s.length ≤ maxLen := by
  cases h
  exact ⟨_, rfl, by assumption⟩
end Go.Proofs.Ytcblgonlgnhgmaa
