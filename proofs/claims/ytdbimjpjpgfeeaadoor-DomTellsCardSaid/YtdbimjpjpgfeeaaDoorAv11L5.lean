/- The law DomTells, as a tied card: for every input it returns true, and each argument reads behind the call as it read before; the listed tables are tied to the program's text. No other conditions. -/
import Derived.Test.YtdbimjpjpgfeeaaDoorCards
import Derived.Test.YtdbimjpjpgfeeaaDoorAvsf
import Derived.Test.YtdbimjpjpgfeeaaDoorAvsh
set_option linter.unusedSimpArgs false
set_option linter.unusedVariables false
namespace Go.Proofs.YtdbimjpjpgfeeaaDoor.domTells
open Go.RowKit Go.Av Go.ChangeShapes Go.WideShapes
set_option maxRecDepth 100000 in
theorem lifted (os : Os) (started : os.Started) (H : Type) (enc : TypeId × Value → H) :
    ReturnsInHanded {} Tryd.checked os 5 .any (fun w args => (Rows.domTellsSpec.pre enc Tryd.prog Tryd.f5 Rows.domTellsRow.domain false w args ∧ laidMetH Tryd.prog laid11 w) ∧ sizedMet enc Tryd.prog Tryd.f5 (OpenSpec.ofChange Rows.domTellsSpec) false w args)
      (Rows.domTellsSpec.post enc Tryd.prog Tryd.f5 false true false false) :=
  lift_laid (C := Tryd.checked) (n := 6) (Ts := [.list 7 ndTy, .int .i64, .str, .str]) (tb := 4) (laid := laid11) own started (by kernel_rfl) Tryd.func5
    (ChangeSpec.witness_shaped (enc := enc) (C := Tryd.checked) (os := os) (X := fun w _ => laidMetH Tryd.prog laid11 w) false (World.laidAll Tryd.prog os laid11) #[.slice none 0 0, .int .i64 0, .string ⟨#[]⟩, .string ⟨#[]⟩] 8 (World.laidAll_os _ _ _)
      (World.shaped_of_ZipB (by kernel_rfl) (by kernel_rfl)) (by kernel_rfl) (by kernel_rfl) (by kernel_rfl) (witness11 enc os _))
    laidOut (by kernel_rfl) (by kernel_rfl) rfl Tryd.underlying4 rfl (fun ds hl => match ds, hl with | [_, _, _, _], _ => rfl)
    (fun W vals xs hL hx hv h1 h2 => match vals, xs, hv, hx with
      | [v0, v1, v2, v3], [x0, x1, x2, x3], _, _ => by
        obtain ⟨a0, rfl, b0⟩ := doc_ok (h1 0 _ _ rfl rfl)
        obtain ⟨a1, rfl, b1⟩ := int_ok (h1 1 _ _ rfl rfl)
        obtain ⟨a2, rfl, b2⟩ := str_ok (h1 2 _ _ rfl rfl)
        obtain ⟨a3, rfl, b3⟩ := str_ok (h1 3 _ _ rfl rfl)
        have e1 := (h2 1 _ _ rfl rfl)
        have e2 := (h2 2 _ _ rfl rfl)
        have e3 := (h2 3 _ _ rfl rfl)
        cases e1
        cases e2
        cases e3
        exact law5_any b0 (gok11 hL) (h2 0 _ _ rfl rfl))
theorem holds : Rows.DomTellsSaid :=
  OpenClaim.holds_of_wide 5 Tryd.f5 rfl rfl rfl rfl rfl rfl rfl ⟨rfl, rfl, rfl, rfl, rfl⟩ rfl rfl rfl rfl rfl (by kernel_rfl) Tryd.func5 (by kernel_rfl)
    (of_decide_eq_true (by kernel_rfl)) (by unfold Func.isWrapper; first | (rw [if_pos (by decide +kernel)]; kernel_rfl) | (rw [if_neg (by decide +kernel)]; exact ⟨rfl, rfl⟩))
    (fun os started H enc _ => lifted os started H enc)
theorem proved : Rows.DomTellsCardSaid :=
  Claim7.holds_tied_plain_at .later [] [.data, .widerDeep, .pinned] true (true, "c33d8b3d8935bb88eefbedbf3014b8c2a044f9cd00e91429ded0293b2049fcb4") true holds (fun _ h => by cases h) (by kernel_rfl) (fun _ h => by cases h) domTells_row_tie rfl ⟨rfl, rfl⟩ (by kernel_rfl) rfl
    (fun f fn hf hfn => by
      obtain rfl : f = 5 := Option.some.inj ((show Tryd.prog.funcNamed Tryd.f5.name = some 5 by kernel_rfl).symm.trans hf) |>.symm
      obtain rfl : fn = Tryd.f5 := (Option.some.inj (Tryd.func5.symm.trans hfn)).symm
      exact ⟨by kernel_rfl, fun j t ht => by
        rw [Tryd.params5] at ht
        have hm : t ∈ [22, 3, 9, 9] := by simpa using Array.mem_of_getElem? ht
        have hall : ([22, 3, 9, 9].all fun u => !Tryd.prog.wantsStandIn u) = true := by kernel_rfl
        exact (show Tryd.prog.wantsStandIn t = false by simpa using List.all_eq_true.1 hall t hm)⟩)
    (by kernel_rfl)
end Go.Proofs.YtdbimjpjpgfeeaaDoor.domTells
