/- The law DomChecks, as a tied card: for every input it returns true, and the argument reads behind the call as it read before; the listed variables are tied to the program's text. No other conditions. -/
import Derived.Test.YtdbimjpjpgfeeaaDoorCards
import Derived.Test.YtdbimjpjpgfeeaaDoorAvsf
import Derived.Test.YtdbimjpjpgfeeaaDoorAvsi
import Derived.ChangeSame
import Derived.ChangeVars
import Derived.JoinedOf
import Derived.LaidLaws
import Derived.LaidHandle
import Derived.Stop.Joined
import Derived.SevenTiedAt
set_option linter.unusedSimpArgs false
set_option linter.unusedVariables false
namespace Go.Proofs.YtdbimjpjpgfeeaaDoor.domChecks
open Go.RowKit Go.Av Go.ChangeShapes Go.WideShapes
def laid6 : List (String × DataW Unit) := Rows.domChecksRow.laid
def nmE : String := (laid6.map (·.1)).getD 1 default
theorem et : Tryd.prog.globalNamed nmE = some 0 := by kernel_rfl
theorem rt : (Tryd.prog.cutTypes.find? (·.1 == (match Rows.laid_errors_errorType (H := Unit) with | .iface s _ => s | _ => default))).map (·.2) = some 106 := by kernel_rfl
theorem oneRow : ((List.range 160).filter fun t => Tryd.prog.rowNamed t [101, 114, 114, 111, 114]) = [34] := by kernel_rfl
theorem size : Tryd.prog.types.size = 160 := by kernel_rfl
theorem parts {W : World} (h : laidMetH Tryd.prog laid6 W) : laidMet Tryd.prog laid11 W ∧ handlesMet Tryd.prog [(nmE, Rows.laid_errors_errorType)] W := h
/-- What the condition gives a walk: the variable's one cell. -/
theorem handle_of_laid {W : World} (h : laidMetH Tryd.prog laid6 W) : ErrT W := by
  obtain ⟨name, u, ty, e1, e2, e3, e4, e5⟩ := (parts h).2 _ (List.mem_singleton.2 rfl)
  have en : name = [101, 114, 114, 111, 114] := (Option.some.inj e1).symm
  subst en
  obtain rfl := Option.some.inj (rt.symm.trans e2)
  have hm : ty ∈ (List.range 160).filter fun t => Tryd.prog.rowNamed t [101, 114, 114, 111, 114] := List.mem_filter.2 ⟨List.mem_range.2 (by rw [← size]; exact e3), e4⟩
  rw [oneRow] at hm
  obtain rfl := List.mem_singleton.1 hm
  have hh : typeHandle Tryd.prog 34 = .pointer (some ⟨4, 34, none⟩) := by kernel_rfl
  rw [hh] at e5
  have := World.var?_cell et e5 0
  unfold ErrT
  simpa using this
theorem gok6 {W : World} (h : laidMetH Tryd.prog laid6 W) : GOK (old W) W := gok11 (by
  rw [MakeChecks.laidMetH_plain _ _ _ (by kernel_rfl)]
  exact (parts h).1)
/-- A world that meets the condition: the settled one, the variables laid. -/
noncomputable def w6 (os : Os) : World :=
  let w0 := World.holding Tryd.prog os ⟨#[], #[], []⟩
  { w0 with heap := w0.heap.modify 0 fun
      | .cells _ t frozen => .cells #[.iface 106 (.agg #[.pointer (some ⟨4, 34, none⟩)])] t frozen
      | o => o }
noncomputable def laidWorld (os : Os) : World := (w6 os).layVars Tryd.prog laid11
theorem laidWorld_os (os : Os) : (laidWorld os).os = os := World.layVars_os _ _ _
theorem laidWorld_plain (os : Os) (args : Array Value) : laidMet Tryd.prog laid11 ((laidWorld os).forCall (fun _ _ => 0) ⟨#[], args, []⟩).memory := by
  have e1 : (laid11.filter fun x => (laid11.map (·.1)).contains x.1) = laid11 := List.filter_eq_self.2 fun x hx => List.contains_iff_mem.2 (List.mem_map.2 ⟨x, hx, rfl⟩)
  have e2 : (laid11.filter fun x => !(laid11.map (·.1)).contains x.1) = [] := List.filter_eq_nil_iff.2 fun x hx => by rw [List.contains_iff_mem.2 (List.mem_map.2 ⟨x, hx, rfl⟩)]; simp
  have hf : (w6 os).layFits Tryd.prog laid11 [] = true := by kernel_rfl
  have hi : (w6 os).layIfaces Tryd.prog laid11 (laidWorld os) = true := by kernel_rfl
  have h : laidMet Tryd.prog laid11 (laidWorld os) := laidMet_layVars (w0 := w6 os) (laid11.map (·.1)) [] (by rw [e1]; rfl) (by rw [e1]; exact hf) (by rw [e1]; exact hi) (by rw [e2]; exact LaidIn.none)
  exact h.of_heap (by simp [World.memory, World.forCall, Input.heap])
theorem laidWorld_met (os : Os) (args : Array Value) : laidMetH Tryd.prog laid6 ((laidWorld os).forCall (fun _ _ => 0) ⟨#[], args, []⟩).memory :=
  laidMetH_of_parts (laidWorld_plain os args) (by kernel_rfl)
set_option maxRecDepth 100000 in
theorem lifted (os : Os) (started : os.Started) (H : Type) (enc : TypeId × Value → H) :
    ReturnsInHanded {} Tryd.checked os 6 .any (fun w args => (Rows.domChecksSpec.pre enc Tryd.prog Tryd.f6 Rows.domChecksRow.domain false w args ∧ laidMetH Tryd.prog laid6 w) ∧ sizedMet enc Tryd.prog Tryd.f6 (OpenSpec.ofChange Rows.domChecksSpec) false w args)
      (Rows.domChecksSpec.post enc Tryd.prog Tryd.f6 false true false false) :=
  lift_laid (C := Tryd.checked) (n := 6) (Ts := [.list 7 ndTy]) (tb := 4) (laid := laid6) own started (by kernel_rfl) Tryd.func6
    (ChangeSpec.witness_shaped (enc := enc) (C := Tryd.checked) (os := os) (X := fun w _ => laidMetH Tryd.prog laid6 w) false (laidWorld os) #[.slice none 0 0] 8 (laidWorld_os _)
      (World.shaped_of_ZipB (by kernel_rfl) (by kernel_rfl)) (by kernel_rfl) (by kernel_rfl) (by kernel_rfl) (laidWorld_met os _))
    laidOut (by kernel_rfl) (by kernel_rfl) rfl Tryd.underlying4 rfl (fun ds hl => match ds, hl with | [_], _ => rfl)
    (fun W vals xs hL hx hv h1 h2 => match vals, xs, hv, hx with
      | [v0], [x0], _, _ => by
        obtain ⟨a0, rfl, b0⟩ := doc_ok (h1 0 _ _ rfl rfl)
        exact law6_any b0 (handle_of_laid hL) (gok6 hL) (h2 0 _ _ rfl rfl))
theorem holds : Rows.DomChecksSaid :=
  OpenClaim.holds_of_wide 6 Tryd.f6 rfl rfl rfl rfl rfl rfl rfl ⟨rfl, rfl, rfl, rfl, rfl⟩ rfl rfl rfl rfl rfl (by kernel_rfl) Tryd.func6 (by kernel_rfl)
    (of_decide_eq_true (by kernel_rfl)) (by unfold Func.isWrapper; first | (rw [if_pos (by decide +kernel)]; kernel_rfl) | (rw [if_neg (by decide +kernel)]; exact ⟨rfl, rfl⟩))
    (fun os started H enc _ => lifted os started H enc)
theorem proved : Rows.DomChecksCardSaid :=
  Claim7.holds_tied_plain_at .later [] [.data, .handle, .widerDeep, .pinned] true (true, "c33d8b3d8935bb88eefbedbf3014b8c2a044f9cd00e91429ded0293b2049fcb4") true holds (fun _ h => by cases h) (by kernel_rfl) (fun _ h => by cases h) domChecks_row_tie rfl ⟨rfl, rfl⟩ (by kernel_rfl) rfl
    (fun f fn hf hfn => by
      obtain rfl : f = 6 := Option.some.inj ((show Tryd.prog.funcNamed Tryd.f6.name = some 6 by kernel_rfl).symm.trans hf) |>.symm
      obtain rfl : fn = Tryd.f6 := (Option.some.inj (Tryd.func6.symm.trans hfn)).symm
      exact ⟨by kernel_rfl, fun j t ht => by
        rw [Tryd.params6] at ht
        have hm : t ∈ [22] := by simpa using Array.mem_of_getElem? ht
        have hall : ([22].all fun u => !Tryd.prog.wantsStandIn u) = true := by kernel_rfl
        exact (show Tryd.prog.wantsStandIn t = false by simpa using List.all_eq_true.1 hall t hm)⟩)
    (by kernel_rfl)
end Go.Proofs.YtdbimjpjpgfeeaaDoor.domChecks
