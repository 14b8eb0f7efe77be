/- The law PlantThins, as a tied card: for every input it returns true, and each argument reads behind the call as it read before; the listed variables are tied to the program's text. No other conditions. -/
import Derived.Test.YtaghfmgeccapbaaGreatDoorCards
import Derived.Test.YtaghfmgeccapbaaGreatDoorAvsg
set_option linter.unusedSimpArgs false
set_option linter.unusedVariables false
namespace Go.Proofs.YtaghfmgeccapbaaGreatDoor.plantThins
open Go.RowKit Go.Av Go.ChangeShapes Go.WideShapes
set_option maxRecDepth 100000 in
theorem lifted (os : Os) (started : os.Started) (H : Type) (enc : TypeId × Value → H) :
    ReturnsInHanded {} Tryz.checked os 3 .any (fun w args => (Rows.plantThinsSpec.pre enc Tryz.prog Tryz.f3 Rows.plantThinsRow.domain false w args ∧ laidMetH Tryz.prog laid6 w) ∧ sizedMet enc Tryz.prog Tryz.f3 (OpenSpec.ofChange Rows.plantThinsSpec) false w args)
      (Rows.plantThinsSpec.post enc Tryz.prog Tryz.f3 false true false false) :=
  lift_laid2 (C := Tryz.checked) (tb := 4) (laid := laid6) us12 own started (by kernel_rfl) Tryz.func3
    (ChangeSpec.witness_shaped (enc := enc) (C := Tryz.checked) (os := os) (X := fun w _ => laidMetH Tryz.prog laid6 w) false (laidWorld os) #[.slice none 0 0, .slice none 0 0, .agg #[.bool false, .string ⟨#[]⟩, .slice none 0 0, .slice none 0 0], .int .i64 0] 8 (laidWorld_os _)
      (World.shaped_of_ZipB (by kernel_rfl) (by kernel_rfl)) (by kernel_rfl) (by kernel_rfl) (by kernel_rfl) (laidWorld_met os _))
    laidOut (@us12_ok ekYes) (by kernel_rfl) (by kernel_rfl) rfl Tryz.underlying4 rfl (fun ds hl => match ds, hl with | [_, _, _, _], _ => rfl)
    (fun W vals xs hL hx hv h1 h2 => match vals, xs, hv, hx with
      | [v0, v1, v2, v3], [x0, x1, x2, x3], _, _ => by
        haveI : Rk := ekYes
        obtain ⟨a0, rfl, b0⟩ := doc_ok (h1 0 _ _ rfl rfl)
        obtain ⟨f, l, rfl, hl⟩ := sels_ok (h1 1 _ _ rfl rfl)
        obtain ⟨nm, rfl, n1, n2⟩ := names_ok (h1 2 _ _ rfl rfl)
        obtain ⟨n, rfl, _⟩ := int_ok Tryz.underlying3 (h1 3 _ _ rfl rfl)
        exact @law_calls ekYes _ (@extTop_ok ekYes (fun _ => true) (fun _ => rfl)) _ _ _ _ _ (@gok11 ekYes _ (parts hL).1 (fun _ => handle_of_laid hL)) (@law3_L ekYes (fun _ => true) rfl f a0 l nm n b0 hl n1 n2) rfl h2)
theorem holds : Rows.PlantThinsSaid :=
  OpenClaim.holds_of_wide 3 Tryz.f3 rfl rfl rfl rfl rfl rfl rfl ⟨rfl, rfl, rfl, rfl, rfl⟩ rfl rfl rfl rfl rfl (by kernel_rfl) Tryz.func3 (by kernel_rfl)
    (of_decide_eq_true (by kernel_rfl)) (by unfold Func.isWrapper; first | (rw [if_pos (by decide +kernel)]; kernel_rfl) | (rw [if_neg (by decide +kernel)]; exact ⟨rfl, rfl⟩))
    (fun os started H enc _ => lifted os started H enc)
theorem proved : Rows.PlantThinsCardSaid :=
  Claim7.holds_tied_plain_at .later [] [.data, .handle, .widerDeep, .pinned] true (true, "72173f3ce4359f8f31f471473a4370103a02eb17c596f86d3dea2afc1bdfa792") true holds (fun _ h => by cases h) (by kernel_rfl) (fun _ h => by cases h) plantThins_row_tie rfl ⟨rfl, rfl⟩ (by kernel_rfl) rfl
    (fun f fn hf hfn => by
      obtain rfl : f = 3 := Option.some.inj ((show Tryz.prog.funcNamed Tryz.f3.name = some 3 by kernel_rfl).symm.trans hf) |>.symm
      obtain rfl : fn = Tryz.f3 := (Option.some.inj (Tryz.func3.symm.trans hfn)).symm
      exact ⟨by kernel_rfl, fun j t ht => by
        rw [Tryz.params3] at ht
        have hm : t ∈ [22, 23, 26, 3] := by simpa using Array.mem_of_getElem? ht
        have hall : ([22, 23, 26, 3].all fun u => !Tryz.prog.wantsStandIn u) = true := by kernel_rfl
        exact (show Tryz.prog.wantsStandIn t = false by simpa using List.all_eq_true.1 hall t hm)⟩)
    (by kernel_rfl)
end Go.Proofs.YtaghfmgeccapbaaGreatDoor.plantThins
