/- The law DomGrows, as a tied card: for every input it returns true, and each argument reads behind the call as it read before; the listed tables are tied to the program's text. No other conditions. -/
import Derived.Test.YtdbimjpjpgfeeaaDoorCards
import Derived.Test.YtdbimjpjpgfeeaaDoorAvsf
set_option linter.unusedSimpArgs false
set_option linter.unusedVariables false
namespace Go.Proofs.YtdbimjpjpgfeeaaDoor.domGrows
open Go.RowKit Go.Av Go.ChangeShapes Go.WideShapes
set_option maxRecDepth 100000 in
theorem lifted (os : Os) (started : os.Started) (H : Type) (enc : TypeId × Value → H) :
    ReturnsInHanded {} Tryd.checked os 3 .any (fun w args => (Rows.domGrowsSpec.pre enc Tryd.prog Tryd.f3 Rows.domGrowsRow.domain false w args ∧ laidMetH Tryd.prog laid11 w) ∧ sizedMet enc Tryd.prog Tryd.f3 (OpenSpec.ofChange Rows.domGrowsSpec) false w args)
      (Rows.domGrowsSpec.post enc Tryd.prog Tryd.f3 false true false false) :=
  lift_laid (C := Tryd.checked) (n := 6) (Ts := [.list 7 ndTy, ndTy, .int .i64]) (tb := 4) (laid := laid11) own started (by kernel_rfl) Tryd.func3
    (ChangeSpec.witness_shaped (enc := enc) (C := Tryd.checked) (os := os) (X := fun w _ => laidMetH Tryd.prog laid11 w) false (World.laidAll Tryd.prog os laid11) #[.slice none 0 0, .agg #[.int .i64 0, .int .i64 0, .string ⟨#[]⟩, .string ⟨#[]⟩, .slice none 0 0, .slice none 0 0, .string ⟨#[]⟩], .int .i64 0] 8 (World.laidAll_os _ _ _)
      (World.shaped_of_ZipB (by kernel_rfl) (by kernel_rfl)) (by kernel_rfl) (by kernel_rfl) (by kernel_rfl) (witness11 enc os _))
    laidOut (by kernel_rfl) (by kernel_rfl) rfl Tryd.underlying4 rfl (fun ds hl => match ds, hl with | [_, _, _], _ => rfl)
    (fun W vals xs hL hx hv h1 h2 => match vals, xs, hv, hx with
      | [v0, v1, v2], [x0, x1, x2], _, _ => by
        obtain ⟨a0, rfl, b0⟩ := doc_ok (h1 0 _ _ rfl rfl)
        obtain ⟨a1, rfl, b1⟩ := nd_ok (h1 1 _ _ rfl rfl)
        obtain ⟨a2, rfl, b2⟩ := int_ok (h1 2 _ _ rfl rfl)
        obtain ⟨r, hr⟩ := law3_L a0 a1 a2 b0 b1
        exact law_calls ext11c_ok hL hr rfl h2)
theorem holds : Rows.DomGrowsSaid :=
  OpenClaim.holds_of_wide 3 Tryd.f3 rfl rfl rfl rfl rfl rfl rfl ⟨rfl, rfl, rfl, rfl, rfl⟩ rfl rfl rfl rfl rfl (by kernel_rfl) Tryd.func3 (by kernel_rfl)
    (of_decide_eq_true (by kernel_rfl)) (by unfold Func.isWrapper; first | (rw [if_pos (by decide +kernel)]; kernel_rfl) | (rw [if_neg (by decide +kernel)]; exact ⟨rfl, rfl⟩))
    (fun os started H enc _ => lifted os started H enc)
theorem proved : Rows.DomGrowsCardSaid :=
  Claim7.holds_tied_plain_at .later [] [.data, .widerDeep, .pinned] true (true, "c33d8b3d8935bb88eefbedbf3014b8c2a044f9cd00e91429ded0293b2049fcb4") true holds (fun _ h => by cases h) (by kernel_rfl) (fun _ h => by cases h) domGrows_row_tie rfl ⟨rfl, rfl⟩ (by kernel_rfl) rfl
    (fun f fn hf hfn => by
      obtain rfl : f = 3 := Option.some.inj ((show Tryd.prog.funcNamed Tryd.f3.name = some 3 by kernel_rfl).symm.trans hf) |>.symm
      obtain rfl : fn = Tryd.f3 := (Option.some.inj (Tryd.func3.symm.trans hfn)).symm
      exact ⟨by kernel_rfl, fun j t ht => by
        rw [Tryd.params3] at ht
        have hm : t ∈ [22, 26, 3] := by simpa using Array.mem_of_getElem? ht
        have hall : ([22, 26, 3].all fun u => !Tryd.prog.wantsStandIn u) = true := by kernel_rfl
        exact (show Tryd.prog.wantsStandIn t = false by simpa using List.all_eq_true.1 hall t hm)⟩)
    (by kernel_rfl)
end Go.Proofs.YtdbimjpjpgfeeaaDoor.domGrows
