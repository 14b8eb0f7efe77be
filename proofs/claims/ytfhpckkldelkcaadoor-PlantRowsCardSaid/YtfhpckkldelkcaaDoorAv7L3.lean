/- The law PlantRows, as a tied card: for every input it returns true, and each argument reads behind the call as it read before; the listed variables are tied to the program's text. No other conditions. -/
import Derived.Test.YtfhpckkldelkcaaDoorCards
import Derived.Test.YtfhpckkldelkcaaDoorAvsf
import Derived.Test.YtfhpckkldelkcaaDoorAvsi
set_option linter.unusedSimpArgs false
set_option linter.unusedVariables false
namespace Go.Proofs.YtfhpckkldelkcaaDoor.plantRows
open Go.RowKit Go.Av Go.ChangeShapes Go.WideShapes
set_option maxRecDepth 100000 in
theorem lifted (os : Os) (started : os.Started) (H : Type) (enc : TypeId × Value → H) :
    ReturnsInHanded {} Tryd.checked os 3 .any (fun w args => (Rows.plantRowsSpec.pre enc Tryd.prog Tryd.f3 Rows.plantRowsRow.domain false w args ∧ laidMetH Tryd.prog laid11 w) ∧ sizedMet enc Tryd.prog Tryd.f3 (OpenSpec.ofChange Rows.plantRowsSpec) false w args)
      (Rows.plantRowsSpec.post enc Tryd.prog Tryd.f3 false true false false) :=
  lift_laid2 (C := Tryd.checked) (tb := 4) (laid := laid11) us17 own started (by kernel_rfl) Tryd.func3
    (ChangeSpec.witness_shaped (enc := enc) (C := Tryd.checked) (os := os) (X := fun w _ => laidMetH Tryd.prog laid11 w) false (World.laidAll Tryd.prog os laid11) #[.slice none 0 0] 8 (World.laidAll_os _ _ _)
      (World.shaped_of_ZipB (by kernel_rfl) (by kernel_rfl)) (by kernel_rfl) (by kernel_rfl) (by kernel_rfl) (witness11 enc os _))
    laidOut us17_ok (by kernel_rfl) (by kernel_rfl) rfl Tryd.underlying4 rfl (fun ds hl => match ds, hl with | [_], _ => rfl)
    (fun W vals xs hL hx hv h1 h2 => match vals, xs, hv, hx with
      | [v0], [x0], _, _ => by
        obtain ⟨a0, rfl, b0⟩ := path_ok (h1 0 _ _ rfl rfl)
        rw [MakeChecks.laidMetH_plain _ _ _ (by kernel_rfl)] at hL
        exact @law_calls ⟨false⟩ _ (@ext11b_ok ⟨false⟩ (fun _ => false) (fun h => by cases h)) _ _ _ _ _ (@gok11 ⟨false⟩ _ hL (fun h => by cases h)) (@law3_L ⟨false⟩ (fun _ => false) a0 b0) rfl h2)
theorem holds : Rows.PlantRowsSaid :=
  OpenClaim.holds_of_wide 3 Tryd.f3 rfl rfl rfl rfl rfl rfl rfl ⟨rfl, rfl, rfl, rfl, rfl⟩ rfl rfl rfl rfl rfl (by kernel_rfl) Tryd.func3 (by kernel_rfl)
    (of_decide_eq_true (by kernel_rfl)) (by unfold Func.isWrapper; first | (rw [if_pos (by decide +kernel)]; kernel_rfl) | (rw [if_neg (by decide +kernel)]; exact ⟨rfl, rfl⟩))
    (fun os started H enc _ => lifted os started H enc)
theorem proved : Rows.PlantRowsCardSaid :=
  Claim7.holds_tied_plain_at .later [] [.data, .widerDeep, .pinned] true (true, "17cb11771ca617aeca0af967a0337145667bc748d5b81d80ecadc770df480006") true holds (fun _ h => by cases h) (by kernel_rfl) (fun _ h => by cases h) plantRows_row_tie rfl ⟨rfl, rfl⟩ (by kernel_rfl) rfl
    (fun f fn hf hfn => by
      obtain rfl : f = 3 := Option.some.inj ((show Tryd.prog.funcNamed Tryd.f3.name = some 3 by kernel_rfl).symm.trans hf) |>.symm
      obtain rfl : fn = Tryd.f3 := (Option.some.inj (Tryd.func3.symm.trans hfn)).symm
      exact ⟨by kernel_rfl, fun j t ht => by
        rw [Tryd.params3] at ht
        have hm : t ∈ [22] := by simpa using Array.mem_of_getElem? ht
        have hall : ([22].all fun u => !Tryd.prog.wantsStandIn u) = true := by kernel_rfl
        exact (show Tryd.prog.wantsStandIn t = false by simpa using List.all_eq_true.1 hall t hm)⟩)
    (by kernel_rfl)
end Go.Proofs.YtfhpckkldelkcaaDoor.plantRows
