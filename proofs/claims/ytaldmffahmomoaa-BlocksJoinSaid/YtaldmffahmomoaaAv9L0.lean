/- Chapter 19: what the frames of the laws share: arguments of their types. No conditions. -/
import Derived.Test.YtaldmffahmomoaaAvta
import Derived.Test.YtaldmffahmomoaaAvb
import Derived.WalkKit
import Derived.ProofKit
set_option linter.unusedVariables false
set_option linter.unusedSimpArgs false
namespace Go.Proofs.Ytaldmffahmomoaa
open Go.Av Go.ChangeShapes Go.WideShapes Go.RowKit
theorem own : ownKnob Try.prog.godebug = none := by kernel_rfl
theorem laidOut : laidOutB Try.prog = true := by kernel_rfl
theorem bytes_ok {d : D} (h : TyOk (.list 1 (.int .u8)) d) : ∃ zs : List Int, d = .list (zs.map (D.int .u8)) ∧ BytesOK zs := by
  cases h with
  | list sz e es hl h =>
    suffices hk : ∃ zs : List Int, es = zs.map (D.int .u8) ∧ ∀ z ∈ zs, 0 ≤ z ∧ z < 256 by
      obtain ⟨zs, rfl, hz⟩ := hk
      refine ⟨zs, rfl, fun i hi => ?_⟩
      have hg : zs.getD i 0 = zs[i] := by simp [List.getD, hi]
      rw [hg]
      exact hz _ (List.getElem_mem hi)
    clear hl
    induction es with
    | nil => exact ⟨[], rfl, fun z hz => by cases hz⟩
    | cons a r ih =>
      obtain ⟨zs, rfl, hz⟩ := ih fun d hd => h d (List.mem_cons_of_mem _ hd)
      have ha := h a List.mem_cons_self
      cases ha with
      | int k n hw =>
        refine ⟨n :: zs, rfl, fun z hz' => ?_⟩
        rcases List.mem_cons.1 hz' with rfl | hz'
        · have e1 : IntKind.u8.min = 0 := by kernel_rfl
          have e2 : IntKind.u8.max = 255 := by kernel_rfl
          simp [Lit.wf, e1, e2] at hw
          omega
        · exact hz z hz'
theorem int_ok {d : D} (h : TyOk (.int .i64) d) : ∃ n, d = .int .i64 n := by
  cases h
  exact ⟨_, rfl⟩
theorem bool_ok {d : D} (h : TyOk .bool d) : ∃ b, d = .bool b := by
  cases h
  exact ⟨_, rfl⟩
end Go.Proofs.Ytaldmffahmomoaa
