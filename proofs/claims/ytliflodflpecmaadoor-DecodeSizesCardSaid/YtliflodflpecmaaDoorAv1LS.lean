/- The law DecodeSizes, as a tied card: for every input it returns true, and the argument reads behind the call as it read before; the two tables of package utf8 are tied to the program's text. No other conditions. -/
import Derived.Test.YtliflodflpecmaaDoorCards
import Derived.Test.YtliflodflpecmaaDoorAv1L
import Derived.Test.YtliflodflpecmaaDoorAv1S
set_option linter.unusedSimpArgs false
set_option linter.unusedVariables false
namespace Go.Proofs.YtliflodflpecmaaDoor.decodeSizes
open Go.RowKit Go.Av Go.ChangeShapes Go.WideShapes
set_option maxRecDepth 100000 in
theorem lifted (os : Os) (started : os.Started) (H : Type) (enc : TypeId × Value → H) :
    ReturnsInHanded {} Tryd.checked os 4 .any (fun w args => (Rows.decodeSizesSpec.pre enc Tryd.prog Tryd.f4 Rows.decodeSizesRow.domain false w args ∧ laidMetH Tryd.prog laid1 w) ∧ sizedMet enc Tryd.prog Tryd.f4 (OpenSpec.ofChange Rows.decodeSizesSpec) false w args)
      (Rows.decodeSizesSpec.post enc Tryd.prog Tryd.f4 false true false false) :=
  lift_laid (C := Tryd.checked) (n := 6) (Ts := [.list 1 (.int .u8)]) (tb := 4) (laid := laid1) own started (by kernel_rfl) Tryd.func4
    (ChangeSpec.witness_shaped (enc := enc) (C := Tryd.checked) (os := os) (X := fun w _ => laidMetH Tryd.prog laid1 w) false (World.laidAll Tryd.prog os laid1) #[.slice none 0 0] 8 (World.laidAll_os _ _ _)
      (World.shaped_of_ZipB (by kernel_rfl) (by kernel_rfl)) (by kernel_rfl) (by kernel_rfl) (by kernel_rfl) (witness1 enc os 4))
    laidOut (by kernel_rfl) (by kernel_rfl) rfl Tryd.underlying4 rfl (fun ds hl => match ds, hl with | [_], _ => rfl)
    (fun W vals xs hL hx hv h1 h2 => match vals, xs, hv, hx with
      | [v], [x], _, _ => by
        obtain ⟨zs, rfl, hz⟩ := bytes_ok (h1 0 _ _ rfl rfl)
        obtain ⟨a, c, rfl, hc, hs⟩ := sl_of_den (h2 0 _ _ rfl rfl) (old_lt W)
        exact sizes_any W a zs.length c zs (tabs_of_laid hL) hz rfl hc hs)
theorem holds : Rows.DecodeSizesSaid :=
  OpenClaim.holds_of_wide 4 Tryd.f4 rfl rfl rfl rfl rfl rfl rfl ⟨rfl, rfl, rfl, rfl, rfl⟩ rfl rfl rfl rfl rfl (by kernel_rfl) Tryd.func4 (by kernel_rfl)
    (of_decide_eq_true (by kernel_rfl)) (by unfold Func.isWrapper; first | (rw [if_pos (by decide +kernel)]; kernel_rfl) | (rw [if_neg (by decide +kernel)]; exact ⟨rfl, rfl⟩))
    (fun os started H enc _ => lifted os started H enc)
theorem proved : Rows.DecodeSizesCardSaid :=
  Claim7.holds_tied_plain_at .later [] [.data, .pinned] true (true, "49e06ff8f58a9fb7aed63f7913e62b96d5215699547e18aae8f5b554a81170d1") true holds (fun _ h => by cases h) (by kernel_rfl) (fun _ h => by cases h) decodeSizes_row_tie rfl ⟨rfl, rfl⟩ (by kernel_rfl) rfl
    (fun f fn hf hfn => by
      obtain rfl : f = 4 := Option.some.inj ((show Tryd.prog.funcNamed Tryd.f4.name = some 4 by kernel_rfl).symm.trans hf) |>.symm
      obtain rfl : fn = Tryd.f4 := (Option.some.inj (Tryd.func4.symm.trans hfn)).symm
      exact ⟨by kernel_rfl, fun j t ht => by
        rw [Tryd.params4] at ht
        have hm : t ∈ [22] := by simpa using Array.mem_of_getElem? ht
        have hall : ([22].all fun u => !Tryd.prog.wantsStandIn u) = true := by kernel_rfl
        exact (show Tryd.prog.wantsStandIn t = false by simpa using List.all_eq_true.1 hall t hm)⟩)
    (by kernel_rfl)
end Go.Proofs.YtliflodflpecmaaDoor.decodeSizes
