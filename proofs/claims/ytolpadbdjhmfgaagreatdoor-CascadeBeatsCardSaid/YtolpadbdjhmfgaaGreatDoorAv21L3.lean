/- The law CascadeBeats, as a tied card: for every input it returns true, and each argument reads behind the call as it read before; the listed tables are tied to the program's text. No other conditions. -/
import Derived.Test.YtolpadbdjhmfgaaGreatDoorCards
import Derived.Test.YtolpadbdjhmfgaaGreatDoorAvsc
set_option linter.unusedSimpArgs false
set_option linter.unusedVariables false
namespace Go.Proofs.YtolpadbdjhmfgaaGreatDoor.cascadeBeats
open Go.RowKit Go.Av Go.ChangeShapes Go.WideShapes
abbrev wtTy : Ty := .agg [.bool, .int .i64, .int .i64, .int .i64, .int .i64, .int .i64]
def wt0 : Value := .agg #[.bool false, .int .i64 0, .int .i64 0, .int .i64 0, .int .i64 0, .int .i64 0]
set_option maxRecDepth 100000 in
theorem lifted (os : Os) (started : os.Started) (H : Type) (enc : TypeId × Value → H) :
    ReturnsInHanded {} Tryz.checked os 3 .any (fun w args => (Rows.cascadeBeatsSpec.pre enc Tryz.prog Tryz.f3 Rows.cascadeBeatsRow.domain false w args ∧ laidMetH Tryz.prog laid21 w) ∧ sizedMet enc Tryz.prog Tryz.f3 (OpenSpec.ofChange Rows.cascadeBeatsSpec) false w args)
      (Rows.cascadeBeatsSpec.post enc Tryz.prog Tryz.f3 false true false false) :=
  lift_laid (C := Tryz.checked) (n := 6) (Ts := [wtTy, wtTy]) (tb := 4) (laid := laid21) own started (by kernel_rfl) Tryz.func3
    (ChangeSpec.witness_shaped (enc := enc) (C := Tryz.checked) (os := os) (X := fun w _ => laidMetH Tryz.prog laid21 w) false (World.laidAll Tryz.prog os laid21) #[wt0, wt0] 8 (World.laidAll_os _ _ _)
      (World.shaped_of_ZipB (by kernel_rfl) (by kernel_rfl)) (by kernel_rfl) (by kernel_rfl) (by kernel_rfl) (witness21 enc os _))
    laidOut (by kernel_rfl) (by kernel_rfl) rfl Tryz.underlying4 rfl (fun ds hl => match ds, hl with | [_, _], _ => rfl)
    (fun W vals xs hL hx hv h1 h2 => match vals, xs, hv, hx with
      | [v0, v1], [x0, x1], _, _ => by
        obtain ⟨a0, a1, a2, a3, a4, a5, rfl⟩ := wt_ok (h1 0 _ _ rfl rfl)
        obtain ⟨b0, b1, b2, b3, b4, b5, rfl⟩ := wt_ok (h1 1 _ _ rfl rfl)
        exact law_calls ext21_ok hL (law3_L (aev_callL speaks21) a0 a1 a2 a3 a4 a5 b0 b1 b2 b3 b4 b5) rfl h2)
theorem holds : Rows.CascadeBeatsSaid :=
  OpenClaim.holds_of_wide 3 Tryz.f3 rfl rfl rfl rfl rfl rfl rfl ⟨rfl, rfl, rfl, rfl, rfl⟩ rfl rfl rfl rfl rfl (by kernel_rfl) Tryz.func3 (by kernel_rfl)
    (of_decide_eq_true (by kernel_rfl)) (by unfold Func.isWrapper; first | (rw [if_pos (by decide +kernel)]; kernel_rfl) | (rw [if_neg (by decide +kernel)]; exact ⟨rfl, rfl⟩))
    (fun os started H enc _ => lifted os started H enc)
theorem proved : Rows.CascadeBeatsCardSaid :=
  Claim7.holds_tied_plain_at .later [] [.data, .widerDeep, .pinned] true (true, "916c640888accf636000cec61e5ad9aef3e8cadf6c0353f81e44dba07fe79e10") false holds (fun _ h => by cases h) (by kernel_rfl) (fun _ h => by cases h) cascadeBeats_row_tie rfl ⟨rfl, rfl⟩ (by kernel_rfl) rfl
    (fun f fn hf hfn => by
      obtain rfl : f = 3 := Option.some.inj ((show Tryz.prog.funcNamed Tryz.f3.name = some 3 by kernel_rfl).symm.trans hf) |>.symm
      obtain rfl : fn = Tryz.f3 := (Option.some.inj (Tryz.func3.symm.trans hfn)).symm
      exact ⟨by kernel_rfl, fun j t ht => by
        rw [Tryz.params3] at ht
        have hm : t ∈ [25, 25] := by simpa using Array.mem_of_getElem? ht
        have hall : ([25, 25].all fun u => !Tryz.prog.wantsStandIn u) = true := by kernel_rfl
        exact (show Tryz.prog.wantsStandIn t = false by simpa using List.all_eq_true.1 hall t hm)⟩)
    (by kernel_rfl)
end Go.Proofs.YtolpadbdjhmfgaaGreatDoor.cascadeBeats
