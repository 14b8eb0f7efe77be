/- The law ValueHolds: for every input it returns true, and each argument reads behind the call as it read before. No conditions. -/
import Derived.Test.YtcblgonlgnhgmaaRows
import Derived.Test.YtcblgonlgnhgmaaAv6L0
import Derived.Test.YtcblgonlgnhgmaaAv6uc
set_option linter.unusedVariables false
set_option linter.unusedSimpArgs false
namespace Go.Proofs.Ytcblgonlgnhgmaa.valueHolds
open Go.Av Go.ChangeShapes Go.WideShapes Go.RowKit
theorem conds_list : ∀ (es : List D), (∀ d ∈ es, TyOk condTy d) → ∃ cs : List Cd, es = cs.map cD
  | [], _ => ⟨[], rfl⟩
  | d :: r, h => by
    obtain ⟨op, t, fold, rfl, _⟩ := cond_ok (h d (by simp))
    obtain ⟨cs, rfl⟩ := conds_list r fun x hx => h x (by simp [hx])
    exact ⟨(op, t, fold) :: cs, rfl⟩
theorem conds_ok {d : D} (h : TyOk (.list 3 condTy) d) : ∃ cs : List Cd, d = .list (cs.map cD) := by
  cases h with
  | list sz e es hl h =>
    obtain ⟨cs, rfl⟩ := conds_list es h
    exact ⟨cs, rfl⟩
set_option maxRecDepth 100000 in
theorem lifted (os : Os) (started : os.Started) (H : Type) (enc : TypeId × Value → H) :
    ReturnsInHanded {} Try.checked os 5 .any (Rows.valueHoldsSpec.pre6 enc Try.prog Try.f5 Rows.valueHoldsRow.domain false) (Rows.valueHoldsSpec.post enc Try.prog Try.f5 false true false false) :=
  lift_true (C := Try.checked) (n := 6) (Ts := [.list 3 condTy, .str]) (tb := 4) fine6 ext6_ok own started (by kernel_rfl) Try.func5
    (ChangeSpec.witness6 (enc := enc) (C := Try.checked) false ⟨#[], #[.slice none 0 0, .string ⟨#[]⟩], []⟩ 8 (by kernel_rfl) (by kernel_rfl) (by kernel_rfl) (by kernel_rfl))
    laidOut (by kernel_rfl) (by kernel_rfl) rfl Try.underlying4 rfl (fun ds hl => match ds, hl with | [_, _], _ => rfl) gok6
    (fun xs hl h => match xs, hl with
      | [a, b], _ => by
        obtain ⟨cs, rfl⟩ := conds_ok (h 0 _ _ rfl rfl)
        obtain ⟨s, rfl, _⟩ := str_ok (h 1 _ _ rfl rfl)
        exact ⟨_, law5_true cs s⟩)
theorem over : Rows.valueHoldsRow.holds Try.pinned (OpenSpec.ofChange Rows.valueHoldsSpec) :=
  OpenClaim.holds_of_wide 5 Try.f5 rfl rfl rfl rfl rfl rfl rfl ⟨rfl, rfl, rfl, rfl, rfl⟩ rfl rfl rfl rfl rfl (by kernel_rfl) Try.func5 (by kernel_rfl)
    (of_decide_eq_true (by kernel_rfl)) (by unfold Func.isWrapper; first | (rw [if_pos (by decide +kernel)]; kernel_rfl) | (rw [if_neg (by decide +kernel)]; exact ⟨rfl, rfl⟩))
    (fun os started H enc _ => lifted os started H enc)
theorem proved : Rows.ValueHoldsSaid := over
end Go.Proofs.Ytcblgonlgnhgmaa.valueHolds
