/- The law ValueImplies: for every input it returns true, and each argument reads behind the call as it read before. No conditions. -/
import Derived.Test.YtcblgonlgnhgmaaRows
import Derived.Test.YtcblgonlgnhgmaaAv6L0
import Derived.Test.YtcblgonlgnhgmaaAv6ta
set_option linter.unusedVariables false
set_option linter.unusedSimpArgs false
namespace Go.Proofs.Ytcblgonlgnhgmaa.valueImplies
open Go.Av Go.ChangeShapes Go.WideShapes Go.RowKit
set_option maxRecDepth 100000 in
theorem lifted (os : Os) (started : os.Started) (H : Type) (enc : TypeId × Value → H) :
    ReturnsInHanded {} Try.checked os 7 .any (Rows.valueImpliesSpec.pre6 enc Try.prog Try.f7 Rows.valueImpliesRow.domain false) (Rows.valueImpliesSpec.post enc Try.prog Try.f7 false true false false) :=
  lift_true (C := Try.checked) (n := 6) (Ts := [condTy, condTy, .str]) (tb := 4) fine6 ext6_ok own started (by kernel_rfl) Try.func7
    (ChangeSpec.witness6 (enc := enc) (C := Try.checked) false ⟨#[], #[.agg #[.int .i64 0, .string ⟨#[]⟩, .bool false], .agg #[.int .i64 0, .string ⟨#[]⟩, .bool false], .string ⟨#[]⟩], []⟩ 8 (by kernel_rfl) (by kernel_rfl) (by kernel_rfl) (by kernel_rfl))
    laidOut (by kernel_rfl) (by kernel_rfl) rfl Try.underlying4 rfl (fun ds hl => match ds, hl with | [_, _, _], _ => rfl) gok6
    (fun xs hl h => match xs, hl with
      | [a, b, c], _ => by
        obtain ⟨oa, ta, fa, rfl, _⟩ := cond_ok (h 0 _ _ rfl rfl)
        obtain ⟨ob, tb, fb, rfl, _⟩ := cond_ok (h 1 _ _ rfl rfl)
        obtain ⟨s, rfl, _⟩ := str_ok (h 2 _ _ rfl rfl)
        exact ⟨_, law7_true oa ta fa ob tb fb s⟩)
theorem over : Rows.valueImpliesRow.holds Try.pinned (OpenSpec.ofChange Rows.valueImpliesSpec) :=
  OpenClaim.holds_of_wide 7 Try.f7 rfl rfl rfl rfl rfl rfl rfl ⟨rfl, rfl, rfl, rfl, rfl⟩ rfl rfl rfl rfl rfl (by kernel_rfl) Try.func7 (by kernel_rfl)
    (of_decide_eq_true (by kernel_rfl)) (by unfold Func.isWrapper; first | (rw [if_pos (by decide +kernel)]; kernel_rfl) | (rw [if_neg (by decide +kernel)]; exact ⟨rfl, rfl⟩))
    (fun os started H enc _ => lifted os started H enc)
theorem proved : Rows.ValueImpliesSaid := over
end Go.Proofs.Ytcblgonlgnhgmaa.valueImplies
