/- The law ValueJoined: for every input it returns true, and each argument reads behind the call as it read before. No conditions. -/
import Derived.Test.YtcblgonlgnhgmaaRows
import Derived.Test.YtcblgonlgnhgmaaAv6L0
import Derived.Test.YtcblgonlgnhgmaaAv6ta
set_option linter.unusedVariables false
set_option linter.unusedSimpArgs false
namespace Go.Proofs.Ytcblgonlgnhgmaa.valueJoined
open Go.Av Go.ChangeShapes Go.WideShapes Go.RowKit
set_option maxRecDepth 100000 in
theorem lifted (os : Os) (started : os.Started) (H : Type) (enc : TypeId × Value → H) :
    ReturnsInHanded {} Try.checked os 4 .any (Rows.valueJoinedSpec.pre6 enc Try.prog Try.f4 Rows.valueJoinedRow.domain false) (Rows.valueJoinedSpec.post enc Try.prog Try.f4 false true false false) :=
  lift_true (C := Try.checked) (n := 6) (Ts := [condTy, .str, .str, .str]) (tb := 4) fine6 ext6_ok own started (by kernel_rfl) Try.func4
    (ChangeSpec.witness6 (enc := enc) (C := Try.checked) false ⟨#[], #[.agg #[.int .i64 0, .string ⟨#[]⟩, .bool false], .string ⟨#[]⟩, .string ⟨#[]⟩, .string ⟨#[]⟩], []⟩ 8 (by kernel_rfl) (by kernel_rfl) (by kernel_rfl) (by kernel_rfl))
    laidOut (by kernel_rfl) (by kernel_rfl) rfl Try.underlying4 rfl (fun ds hl => match ds, hl with | [_, _, _, _], _ => rfl) gok6
    (fun xs hl h => match xs, hl with
      | [a, b, c, d], _ => by
        obtain ⟨op, t, fold, rfl, _⟩ := cond_ok (h 0 _ _ rfl rfl)
        obtain ⟨s1, rfl, _⟩ := str_ok (h 1 _ _ rfl rfl)
        obtain ⟨s2, rfl, _⟩ := str_ok (h 2 _ _ rfl rfl)
        obtain ⟨s3, rfl, _⟩ := str_ok (h 3 _ _ rfl rfl)
        exact ⟨_, law4_true op t fold s1 s2 s3⟩)
theorem over : Rows.valueJoinedRow.holds Try.pinned (OpenSpec.ofChange Rows.valueJoinedSpec) :=
  OpenClaim.holds_of_wide 4 Try.f4 rfl rfl rfl rfl rfl rfl rfl ⟨rfl, rfl, rfl, rfl, rfl⟩ rfl rfl rfl rfl rfl (by kernel_rfl) Try.func4 (by kernel_rfl)
    (of_decide_eq_true (by kernel_rfl)) (by unfold Func.isWrapper; first | (rw [if_pos (by decide +kernel)]; kernel_rfl) | (rw [if_neg (by decide +kernel)]; exact ⟨rfl, rfl⟩))
    (fun os started H enc _ => lifted os started H enc)
theorem proved : Rows.ValueJoinedSaid := over
end Go.Proofs.Ytcblgonlgnhgmaa.valueJoined
