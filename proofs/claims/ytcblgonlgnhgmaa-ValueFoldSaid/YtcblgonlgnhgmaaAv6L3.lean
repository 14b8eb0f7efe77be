/- The law ValueFold: for every input it returns true, and each argument reads behind the call as it read before. No conditions. -/
import Derived.Test.YtcblgonlgnhgmaaRows
import Derived.Test.YtcblgonlgnhgmaaAv6L0
import Derived.Test.YtcblgonlgnhgmaaAv6ud
set_option linter.unusedVariables false
set_option linter.unusedSimpArgs false
namespace Go.Proofs.Ytcblgonlgnhgmaa.valueFold
open Go.Av Go.ChangeShapes Go.WideShapes Go.RowKit
set_option maxRecDepth 100000 in
theorem lifted (os : Os) (started : os.Started) (H : Type) (enc : TypeId × Value → H) :
    ReturnsInHanded {} Try.checked os 3 .any (Rows.valueFoldSpec.pre6 enc Try.prog Try.f3 Rows.valueFoldRow.domain false) (Rows.valueFoldSpec.post enc Try.prog Try.f3 false true false false) :=
  lift_true (C := Try.checked) (n := 6) (Ts := [condTy, .str]) (tb := 4) fine6 ext6_ok own started (by kernel_rfl) Try.func3
    (ChangeSpec.witness6 (enc := enc) (C := Try.checked) false ⟨#[], #[.agg #[.int .i64 0, .string ⟨#[]⟩, .bool false], .string ⟨#[]⟩], []⟩ 8 (by kernel_rfl) (by kernel_rfl) (by kernel_rfl) (by kernel_rfl))
    laidOut (by kernel_rfl) (by kernel_rfl) rfl Try.underlying4 rfl (fun ds hl => match ds, hl with | [_, _], _ => rfl) gok6
    (fun xs hl h => match xs, hl with
      | [a, b], _ => by
        obtain ⟨op, t, fold, rfl, _⟩ := cond_ok (h 0 _ _ rfl rfl)
        obtain ⟨s, rfl, _⟩ := str_ok (h 1 _ _ rfl rfl)
        exact ⟨_, law3_true op t fold s⟩)
theorem over : Rows.valueFoldRow.holds Try.pinned (OpenSpec.ofChange Rows.valueFoldSpec) :=
  OpenClaim.holds_of_wide 3 Try.f3 rfl rfl rfl rfl rfl rfl rfl ⟨rfl, rfl, rfl, rfl, rfl⟩ rfl rfl rfl rfl rfl (by kernel_rfl) Try.func3 (by kernel_rfl)
    (of_decide_eq_true (by kernel_rfl)) (by unfold Func.isWrapper; first | (rw [if_pos (by decide +kernel)]; kernel_rfl) | (rw [if_neg (by decide +kernel)]; exact ⟨rfl, rfl⟩))
    (fun os started H enc _ => lifted os started H enc)
theorem proved : Rows.ValueFoldSaid := over
end Go.Proofs.Ytcblgonlgnhgmaa.valueFold
