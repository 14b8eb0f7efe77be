/- The law SelCopies: for every input it returns true, and each argument reads behind the call as it read before. No conditions. -/
import Derived.Test.YtjoogeabdjdleaaAvsb
set_option linter.unusedSimpArgs false
set_option linter.unusedVariables false
namespace Go.Proofs.Ytjoogeabdjdleaa.selCopies
open Go.RowKit Go.Av Go.ChangeShapes Go.WideShapes
set_option maxRecDepth 100000 in
theorem lifted (os : Os) (started : os.Started) (H : Type) (enc : TypeId × Value → H) :
    ReturnsInHanded {} Try.checked os 3 .any (Rows.selCopiesSpec.pre6 enc Try.prog Try.f3 Rows.selCopiesRow.domain false) (Rows.selCopiesSpec.post enc Try.prog Try.f3 false true false false) :=
  lift_plain2 (C := Try.checked) (tb := 4) us8 own started (by kernel_rfl) Try.func3
    (ChangeSpec.witness6 (enc := enc) (C := Try.checked) false ⟨#[], #[.slice none 0 0, .slice none 0 0], []⟩ 8 (by kernel_rfl) (by kernel_rfl) (by kernel_rfl) (by kernel_rfl))
    laidOut us8_ok (by kernel_rfl) (by kernel_rfl) rfl Try.underlying4 rfl (fun ds hl => match ds, hl with | [_, _], _ => rfl)
    (fun W vals xs hx hv h1 h2 => match vals, xs, hv, hx with
      | [v0, v1], [x0, x1], _, _ => by
        obtain ⟨f1, a, rfl, ha⟩ := sels_ok (h1 0 _ _ rfl rfl)
        obtain ⟨f2, b, rfl, hb⟩ := sels_ok (h1 1 _ _ rfl rfl)
        have d0 := h2 0 _ _ rfl rfl
        have d1 := h2 1 _ _ rfl rfl
        by_cases h : decide (120 < cnt 120 (f1 + 1) a 0) = true ∨ decide (120 < cnt 120 (f2 + 1) b 0) = true
        · exact law3_early d0 d1 ha hb h
        · simp only [not_or, decide_eq_true_eq] at h
          exact law3_late d0 d1 ha hb h.1 h.2)
theorem over : Rows.selCopiesRow.holds Try.pinned (OpenSpec.ofChange Rows.selCopiesSpec) :=
  OpenClaim.holds_of_wide 3 Try.f3 rfl rfl rfl rfl rfl rfl rfl ⟨rfl, rfl, rfl, rfl, rfl⟩ rfl rfl rfl rfl rfl (by kernel_rfl) Try.func3 (by kernel_rfl)
    (of_decide_eq_true (by kernel_rfl)) (by unfold Func.isWrapper; first | (rw [if_pos (by decide +kernel)]; kernel_rfl) | (rw [if_neg (by decide +kernel)]; exact ⟨rfl, rfl⟩))
    (fun os started H enc _ => lifted os started H enc)
theorem proved : Rows.SelCopiesSaid := over
end Go.Proofs.Ytjoogeabdjdleaa.selCopies
