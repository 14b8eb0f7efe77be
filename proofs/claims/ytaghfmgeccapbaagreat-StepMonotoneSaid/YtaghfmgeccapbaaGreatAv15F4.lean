/- The law StepMonotone: for every input it returns true, and each argument reads behind the call as it read before. No conditions. -/
import Derived.Test.YtaghfmgeccapbaaGreatAvse
set_option linter.unusedSimpArgs false
set_option linter.unusedVariables false
namespace Go.Proofs.YtaghfmgeccapbaaGreat.stepMonotone
open Go.RowKit Go.Av Go.ChangeShapes Go.WideShapes
set_option maxRecDepth 100000 in
theorem lifted (os : Os) (started : os.Started) (H : Type) (enc : TypeId × Value → H) :
    ReturnsInHanded {} Tryz.checked os 4 .any (Rows.stepMonotoneSpec.pre6 enc Tryz.prog Tryz.f4 Rows.stepMonotoneRow.domain false) (Rows.stepMonotoneSpec.post enc Tryz.prog Tryz.f4 false true false false) :=
  lift_plain2 (C := Tryz.checked) (tb := 4) us15 own started (by kernel_rfl) Tryz.func4
    (ChangeSpec.witness6 (enc := enc) (C := Tryz.checked) false ⟨#[], #[.slice none 0 0, .agg #[.bool false, .string ⟨#[]⟩, .slice none 0 0, .slice none 0 0], .agg #[.bool false, .slice none 0 0, .slice none 0 0, .slice none 0 0], .slice none 0 0, .slice none 0 0], []⟩ 8 (by kernel_rfl) (by kernel_rfl) (by kernel_rfl) (by kernel_rfl))
    laidOut (@us15_ok rk1) (by kernel_rfl) (by kernel_rfl) rfl Tryz.underlying4 rfl (fun ds hl => match ds, hl with | [_, _, _, _, _], _ => rfl)
    (fun W vals xs hx hv h1 h2 => match vals, xs, hv, hx with
      | [v0, v1, v2, v3, v4], [x0, x1, x2, x3, x4], _, _ => by
        letI : Rk := rk1
        obtain ⟨f, ls, rfl, hl⟩ := lls_ok (h1 0 _ _ rfl rfl)
        obtain ⟨nm, rfl, n1, n2⟩ := names_ok (h1 1 _ _ rfl rfl)
        obtain ⟨rt, up, left, ns, rfl⟩ := ctx_ok (h1 2 _ _ rfl rfl)
        obtain ⟨tr, rfl⟩ := bools_ok (h1 3 _ _ rfl rfl)
        obtain ⟨more, rfl⟩ := bools_ok (h1 4 _ _ rfl rfl)
        exact law_plain (mono_L (chk := fun _ => false) nm n1 n2 ls hl rt up left tr more ns) rfl h2)
theorem over : Rows.stepMonotoneRow.holds Tryz.pinned (OpenSpec.ofChange Rows.stepMonotoneSpec) :=
  OpenClaim.holds_of_wide 4 Tryz.f4 rfl rfl rfl rfl rfl rfl rfl ⟨rfl, rfl, rfl, rfl, rfl⟩ rfl rfl rfl rfl rfl (by kernel_rfl) Tryz.func4 (by kernel_rfl)
    (of_decide_eq_true (by kernel_rfl)) (by unfold Func.isWrapper; first | (rw [if_pos (by decide +kernel)]; kernel_rfl) | (rw [if_neg (by decide +kernel)]; exact ⟨rfl, rfl⟩))
    (fun os started H enc _ => lifted os started H enc)
theorem proved : Rows.StepMonotoneSaid := over
end Go.Proofs.YtaghfmgeccapbaaGreat.stepMonotone
