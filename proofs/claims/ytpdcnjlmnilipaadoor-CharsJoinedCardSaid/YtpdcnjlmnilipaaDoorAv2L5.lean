/- The law CharsJoined, as a tied card: for every input it returns true, and each argument reads behind the call as it read before; the listed tables are tied to the program's text. No other conditions. -/
import Derived.Test.YtpdcnjlmnilipaaDoorCards
import Derived.Test.YtpdcnjlmnilipaaDoorAv2L
import Derived.Test.YtpdcnjlmnilipaaDoorAv2x5
set_option linter.unusedSimpArgs false
set_option linter.unusedVariables false
namespace Go.Proofs.YtpdcnjlmnilipaaDoor.charsJoined
open Go.RowKit Go.Av Go.ChangeShapes Go.WideShapes
set_option maxRecDepth 100000 in
theorem lifted (os : Os) (started : os.Started) (H : Type) (enc : TypeId × Value → H) :
    ReturnsInHanded {} Tryd.checked os 5 .any (fun w args => (Rows.charsJoinedSpec.pre enc Tryd.prog Tryd.f5 Rows.charsJoinedRow.domain false w args ∧ laidMetH Tryd.prog laid2 w) ∧ sizedMet enc Tryd.prog Tryd.f5 (OpenSpec.ofChange Rows.charsJoinedSpec) false w args)
      (Rows.charsJoinedSpec.post enc Tryd.prog Tryd.f5 false true false false) :=
  lift_laid (C := Tryd.checked) (n := 6) (Ts := [.str, .str, .int .u8]) (tb := 4) (laid := laid2) own started (by kernel_rfl) Tryd.func5
    (ChangeSpec.witness_shaped (enc := enc) (C := Tryd.checked) (os := os) (X := fun w _ => laidMetH Tryd.prog laid2 w) false (World.laidAll Tryd.prog os laid2) #[.string ⟨#[]⟩, .string ⟨#[]⟩, .int .u8 0] 8 (World.laidAll_os _ _ _)
      (World.shaped_of_ZipB (by kernel_rfl) (by kernel_rfl)) (by kernel_rfl) (by kernel_rfl) (by kernel_rfl) (witness2 enc os _))
    laidOut (by kernel_rfl) (by kernel_rfl) rfl Tryd.underlying4 rfl (fun ds hl => match ds, hl with | [_, _, _], _ => rfl)
    (fun W vals xs hL hx hv h1 h2 => match vals, xs, hv, hx with
      | [v0, v1, v2], [x0, x1, x2], _, _ => by
        obtain ⟨a, rfl, _⟩ := str_ok (h1 0 _ _ rfl rfl)
        obtain ⟨b, rfl, _⟩ := str_ok (h1 1 _ _ rfl rfl)
        obtain ⟨n, rfl, hn⟩ := u8_ok (h1 2 _ _ rfl rfl)
        refine law_calls hL (law5_L a b n hn) rfl ?_
        exact h2)
theorem holds : Rows.CharsJoinedSaid :=
  OpenClaim.holds_of_wide 5 Tryd.f5 rfl rfl rfl rfl rfl rfl rfl ⟨rfl, rfl, rfl, rfl, rfl⟩ rfl rfl rfl rfl rfl (by kernel_rfl) Tryd.func5 (by kernel_rfl)
    (of_decide_eq_true (by kernel_rfl)) (by unfold Func.isWrapper; first | (rw [if_pos (by decide +kernel)]; kernel_rfl) | (rw [if_neg (by decide +kernel)]; exact ⟨rfl, rfl⟩))
    (fun os started H enc _ => lifted os started H enc)
theorem proved : Rows.CharsJoinedCardSaid :=
  Claim7.holds_tied_plain_at .later [] [.data, .data, .data] true (true, "4f90bfc2221734f95cf4fccd8b1f07185953d5237e560393a9e6d12ac4295e20") false holds (fun _ h => by cases h) (by kernel_rfl) (fun _ h => by cases h) charsJoined_row_tie rfl ⟨rfl, rfl⟩ (by kernel_rfl) rfl
    (fun f fn hf hfn => by
      obtain rfl : f = 5 := Option.some.inj ((show Tryd.prog.funcNamed Tryd.f5.name = some 5 by kernel_rfl).symm.trans hf) |>.symm
      obtain rfl : fn = Tryd.f5 := (Option.some.inj (Tryd.func5.symm.trans hfn)).symm
      exact ⟨by kernel_rfl, fun j t ht => by
        rw [Tryd.params5] at ht
        have hm : t ∈ [9, 9, 5] := by simpa using Array.mem_of_getElem? ht
        have hall : ([9, 9, 5].all fun u => !Tryd.prog.wantsStandIn u) = true := by kernel_rfl
        exact (show Tryd.prog.wantsStandIn t = false by simpa using List.all_eq_true.1 hall t hm)⟩)
    (by kernel_rfl)
end Go.Proofs.YtpdcnjlmnilipaaDoor.charsJoined
