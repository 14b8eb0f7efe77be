/- Chapter 17: frames with a handle among the laid variables. No conditions (gen_L.py). -/
import Derived.Test.YtfhpckkldelkcaaDoorAvsf
import Derived.ChangeSame
import Derived.ChangeVars
import Derived.JoinedOf
import Derived.LaidLaws
import Derived.LaidHandle
import Derived.Stop.Joined
import Derived.SevenTiedAt
set_option linter.unusedSimpArgs false
set_option linter.unusedVariables false
namespace Go.Proofs.YtfhpckkldelkcaaDoor
open Go.RowKit Go.Av Go.ChangeShapes Go.WideShapes
def laid6 : List (String × DataW Unit) := Rows.plantDocsRow.laid
def nmE : String := (laid6.map (·.1)).getD 1 default
theorem et : Tryd.prog.globalNamed nmE = some 0 := by kernel_rfl
theorem rt : (Tryd.prog.cutTypes.find? (·.1 == (match Rows.laid_errors_errorType (H := Unit) with | .iface s _ => s | _ => default))).map (·.2) = some 102 := by kernel_rfl
theorem oneRow : ((List.range 161).filter fun t => Tryd.prog.rowNamed t [101, 114, 114, 111, 114]) = [34] := by kernel_rfl
theorem size : Tryd.prog.types.size = 161 := by kernel_rfl
theorem parts {W : World} (h : laidMetH Tryd.prog laid6 W) : laidMet Tryd.prog laid11 W ∧ handlesMet Tryd.prog [(nmE, Rows.laid_errors_errorType)] W := h
theorem handle_of_laid {W : World} (h : laidMetH Tryd.prog laid6 W) : ErrT W := by
  obtain ⟨name, u, ty, e1, e2, e3, e4, e5⟩ := (parts h).2 _ (List.mem_singleton.2 rfl)
  have en : name = [101, 114, 114, 111, 114] := (Option.some.inj e1).symm
  subst en
  obtain rfl := Option.some.inj (rt.symm.trans e2)
  have hm : ty ∈ (List.range 161).filter fun t => Tryd.prog.rowNamed t [101, 114, 114, 111, 114] := List.mem_filter.2 ⟨List.mem_range.2 (by rw [← size]; exact e3), e4⟩
  rw [oneRow] at hm
  obtain rfl := List.mem_singleton.1 hm
  have hh : typeHandle Tryd.prog 34 = .pointer (some ⟨4, 34, none⟩) := by kernel_rfl
  rw [hh] at e5
  have := World.var?_cell et e5 0
  unfold ErrT
  simpa using this
noncomputable def w6 (os : Os) : World :=
  let w0 := World.holding Tryd.prog os ⟨#[], #[], []⟩
  { w0 with heap := w0.heap.modify 0 fun
      | .cells _ t frozen => .cells #[.iface 102 (.agg #[.pointer (some ⟨4, 34, none⟩)])] t frozen
      | o => o }
noncomputable def laidWorld (os : Os) : World := (w6 os).layVars Tryd.prog laid11
theorem laidWorld_os (os : Os) : (laidWorld os).os = os := World.layVars_os _ _ _
theorem laidWorld_plain (os : Os) (args : Array Value) : laidMet Tryd.prog laid11 ((laidWorld os).forCall (fun _ _ => 0) ⟨#[], args, []⟩).memory := by
  have e1 : (laid11.filter fun x => (laid11.map (·.1)).contains x.1) = laid11 := List.filter_eq_self.2 fun x hx => List.contains_iff_mem.2 (List.mem_map.2 ⟨x, hx, rfl⟩)
  have e2 : (laid11.filter fun x => !(laid11.map (·.1)).contains x.1) = [] := List.filter_eq_nil_iff.2 fun x hx => by rw [List.contains_iff_mem.2 (List.mem_map.2 ⟨x, hx, rfl⟩)]; simp
  have hf : (w6 os).layFits Tryd.prog laid11 [] = true := by kernel_rfl
  have hi : (w6 os).layIfaces Tryd.prog laid11 (laidWorld os) = true := by kernel_rfl
  have h : laidMet Tryd.prog laid11 (laidWorld os) := laidMet_layVars (w0 := w6 os) (laid11.map (·.1)) [] (by rw [e1]; rfl) (by rw [e1]; exact hf) (by rw [e1]; exact hi) (by rw [e2]; exact LaidIn.none)
  exact h.of_heap (by simp [World.memory, World.forCall, Input.heap])
theorem laidWorld_met (os : Os) (args : Array Value) : laidMetH Tryd.prog laid6 ((laidWorld os).forCall (fun _ _ => 0) ⟨#[], args, []⟩).memory :=
  laidMetH_of_parts (laidWorld_plain os args) (by kernel_rfl)
abbrev ekYes : Ek := ⟨true⟩
end Go.Proofs.YtfhpckkldelkcaaDoor
