/- The law PlantDrops, as a tied card: for every input it returns true, and each argument reads behind the call as it read before; the listed variables are tied to the program's text. No other conditions. -/
import Derived.Test.YtfhpckkldelkcaaDoorCards
import Derived.Test.YtfhpckkldelkcaaDoorAv7L6
import Derived.Test.YtfhpckkldelkcaaDoorAvsh
set_option linter.unusedSimpArgs false
set_option linter.unusedVariables false
namespace Go.Proofs.YtfhpckkldelkcaaDoor.plantDrops
open Go.RowKit Go.Av Go.ChangeShapes Go.WideShapes
set_option maxRecDepth 100000 in
theorem lifted (os : Os) (started : os.Started) (H : Type) (enc : TypeId × Value → H) :
    ReturnsInHanded {} Tryd.checked os 4 .any (fun w args => (Rows.plantDropsSpec.pre enc Tryd.prog Tryd.f4 Rows.plantDropsRow.domain false w args ∧ laidMetH Tryd.prog laid6 w) ∧ sizedMet enc Tryd.prog Tryd.f4 (OpenSpec.ofChange Rows.plantDropsSpec) false w args)
      (Rows.plantDropsSpec.post enc Tryd.prog Tryd.f4 false true false false) :=
  lift_laid2 (C := Tryd.checked) (tb := 4) (laid := laid6) us17 own started (by kernel_rfl) Tryd.func4
    (ChangeSpec.witness_shaped (enc := enc) (C := Tryd.checked) (os := os) (X := fun w _ => laidMetH Tryd.prog laid6 w) false (laidWorld os) #[.slice none 0 0, .int .i64 0, .int .i64 0] 8 (laidWorld_os _)
      (World.shaped_of_ZipB (by kernel_rfl) (by kernel_rfl)) (by kernel_rfl) (by kernel_rfl) (by kernel_rfl) (laidWorld_met os _))
    laidOut us17_ok (by kernel_rfl) (by kernel_rfl) rfl Tryd.underlying4 rfl (fun ds hl => match ds, hl with | [_, _, _], _ => rfl)
    (fun W vals xs hL hx hv h1 h2 => match vals, xs, hv, hx with
      | [v0, v1, v2], [x0, x1, x2], _, _ => by
        obtain ⟨a0, rfl, b0⟩ := doc_ok (h1 0 _ _ rfl rfl)
        obtain ⟨n, rfl, n1, n2⟩ := int_ok Tryd.underlying3 (h1 1 _ _ rfl rfl)
        obtain ⟨o, rfl, o1, o2⟩ := int_ok Tryd.underlying3 (h1 2 _ _ rfl rfl)
        exact @law_calls ekYes _ (@ext11b_ok ekYes (fun _ => true) (fun _ => rfl)) _ _ _ _ _ (@gok11 ekYes _ (parts hL).1 (fun _ => handle_of_laid hL)) (@law4_L ekYes (fun _ => true) rfl a0 b0 n o) rfl h2)
theorem holds : Rows.PlantDropsSaid :=
  OpenClaim.holds_of_wide 4 Tryd.f4 rfl rfl rfl rfl rfl rfl rfl ⟨rfl, rfl, rfl, rfl, rfl⟩ rfl rfl rfl rfl rfl (by kernel_rfl) Tryd.func4 (by kernel_rfl)
    (of_decide_eq_true (by kernel_rfl)) (by unfold Func.isWrapper; first | (rw [if_pos (by decide +kernel)]; kernel_rfl) | (rw [if_neg (by decide +kernel)]; exact ⟨rfl, rfl⟩))
    (fun os started H enc _ => lifted os started H enc)
theorem proved : Rows.PlantDropsCardSaid :=
  Claim7.holds_tied_plain_at .later [] [.data, .handle, .widerDeep, .pinned] true (true, "17cb11771ca617aeca0af967a0337145667bc748d5b81d80ecadc770df480006") true holds (fun _ h => by cases h) (by kernel_rfl) (fun _ h => by cases h) plantDrops_row_tie rfl ⟨rfl, rfl⟩ (by kernel_rfl) rfl
    (fun f fn hf hfn => by
      obtain rfl : f = 4 := Option.some.inj ((show Tryd.prog.funcNamed Tryd.f4.name = some 4 by kernel_rfl).symm.trans hf) |>.symm
      obtain rfl : fn = Tryd.f4 := (Option.some.inj (Tryd.func4.symm.trans hfn)).symm
      exact ⟨by kernel_rfl, fun j t ht => by
        rw [Tryd.params4] at ht
        have hm : t ∈ [24, 3, 3] := by simpa using Array.mem_of_getElem? ht
        have hall : ([24, 3, 3].all fun u => !Tryd.prog.wantsStandIn u) = true := by kernel_rfl
        exact (show Tryd.prog.wantsStandIn t = false by simpa using List.all_eq_true.1 hall t hm)⟩)
    (by kernel_rfl)
end Go.Proofs.YtfhpckkldelkcaaDoor.plantDrops
