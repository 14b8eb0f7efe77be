/- The law MatchAll, as a tied card: for every input it returns true, and each argument reads behind the call as it read before; the listed variables are tied to the program's text. No other conditions. -/
import Derived.Test.YtcogfddcdpgpkaaGreatDoorCards
import Derived.Test.YtcogfddcdpgpkaaGreatDoorAvuf
import Derived.Test.YtcogfddcdpgpkaaGreatDoorAvug
set_option linter.unusedSimpArgs false
set_option linter.unusedVariables false
namespace Go.Proofs.YtcogfddcdpgpkaaGreatDoor.matchAll
open Go.RowKit Go.Av Go.ChangeShapes Go.WideShapes
set_option maxRecDepth 100000 in
theorem lifted (os : Os) (started : os.Started) (H : Type) (enc : TypeId × Value → H) :
  ReturnsInHanded {} Tryz.checked os 5 .any (fun w args => (Rows.matchAllSpec.pre enc Tryz.prog Tryz.f5 Rows.matchAllRow.domain false w args ∧ laidMetH Tryz.prog laid11 w) ∧ sizedMet enc Tryz.prog Tryz.f5 (OpenSpec.ofChange Rows.matchAllSpec) false w args)
   (Rows.matchAllSpec.post enc Tryz.prog Tryz.f5 false true false false) :=
 lift_laid3 (C := Tryz.checked) (tb := 4) (laid := laid11) us12 own started (by kernel_rfl) Tryz.func5
  (ChangeSpec.witness_shaped (enc := enc) (C := Tryz.checked) (os := os) (X := fun w _ => laidMetH Tryz.prog laid11 w) false (World.laidAll Tryz.prog os laid11) #[.slice none 0 0, .slice none 0 0, .agg #[.bool false, .string ⟨#[]⟩, .slice none 0 0, .slice none 0 0]] 8 (World.laidAll_os _ _ _)
   (World.shaped_of_ZipB (by kernel_rfl) (by kernel_rfl)) (by kernel_rfl) (by kernel_rfl) (by kernel_rfl) (witness11 enc os _))
  laidOut us12_ok (by kernel_rfl) (by kernel_rfl) rfl Tryz.underlying4 rfl (fun ds hl => match ds, hl with | [_, _, _], _ => rfl)
  (fun W vals xs hL hsh hx hv h1 h2 => match vals, xs, hv, hx with
   | [v0, v1, v2], [x0, x1, x2], _, _ => by
    obtain ⟨a0, rfl, b0⟩ := doc_ok (h1 0 _ _ rfl rfl)
    obtain ⟨f, l, rfl, hl⟩ := sels_ok (h1 1 _ _ rfl rfl)
    obtain ⟨nm, rfl, n1, n2⟩ := names_ok (h1 2 _ _ rfl rfl)
    exact law_c1 (gok11 hL hsh) (Go.Av.C1.callL (ext12_ok spOnly_ok) (@all_law (rkE spOnly okA) rfl (rowA rfl) f a0 l nm b0 hl n1 n2)) rfl h2)
theorem holds : Rows.MatchAllSaid :=
 OpenClaim.holds_of_wide 5 Tryz.f5 rfl rfl rfl rfl rfl rfl rfl ⟨rfl, rfl, rfl, rfl, rfl⟩ rfl rfl rfl rfl rfl (by kernel_rfl) Tryz.func5 (by kernel_rfl)
  (of_decide_eq_true (by kernel_rfl)) (by unfold Func.isWrapper; first | (rw [if_pos (by decide +kernel)]; kernel_rfl) | (rw [if_neg (by decide +kernel)]; exact ⟨rfl, rfl⟩))
  (fun os started H enc _ => lifted os started H enc)
theorem proved : Rows.MatchAllCardSaid :=
 Claim7.holds_tied_plain_at .later [] [.data, .widerDeep, .data, .pinned] true (true, "5d3562acdf79c28d484395d75109257aa3c29a293d7b749e2d9cb27c268f295b") false holds (fun _ h => by cases h) (by kernel_rfl) (fun _ h => by cases h) matchAll_row_tie rfl ⟨rfl, rfl⟩ (by kernel_rfl) rfl
  (fun f fn hf hfn => by
   obtain rfl : f = 5 := Option.some.inj ((show Tryz.prog.funcNamed Tryz.f5.name = some 5 by kernel_rfl).symm.trans hf) |>.symm
   obtain rfl : fn = Tryz.f5 := (Option.some.inj (Tryz.func5.symm.trans hfn)).symm
   exact ⟨by kernel_rfl, fun j t ht => by
    rw [Tryz.params5] at ht
    have hm : t ∈ [22, 23, 26] := by simpa using Array.mem_of_getElem? ht
    have hall : ([22, 23, 26].all fun u => !Tryz.prog.wantsStandIn u) = true := by kernel_rfl
    exact (show Tryz.prog.wantsStandIn t = false by simpa using List.all_eq_true.1 hall t hm)⟩)
  (by kernel_rfl)
end Go.Proofs.YtcogfddcdpgpkaaGreatDoor.matchAll
