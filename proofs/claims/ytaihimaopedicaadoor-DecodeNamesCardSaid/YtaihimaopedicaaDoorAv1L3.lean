/- The law DecodeNames, as a tied card: for every input it returns true, and each argument reads behind the call as it read before; the listed variable is tied to the program's text. No other conditions. -/
import Derived.Test.YtaihimaopedicaaDoorCards
import Derived.Test.YtaihimaopedicaaDoorTie
import Derived.Test.YtaihimaopedicaaDoorAvb
import Derived.Test.YtaihimaopedicaaDoorAv1ee
import Derived.ChangeSame
import Derived.ChangeVars
import Derived.JoinedOf
import Derived.LaidLaws
import Derived.LaidHandle
import Derived.Stop.Joined
import Derived.SevenTiedAt
set_option linter.unusedSimpArgs false
set_option linter.unusedVariables false
namespace Go.Proofs.YtaihimaopedicaaDoor.decodeNames
open Go.RowKit Go.Av Go.ChangeShapes Go.WideShapes
theorem own : ownKnob Tryd.prog.godebug = none := by kernel_rfl
theorem laidOut : laidOutB Tryd.prog = true := by kernel_rfl
def laidE : List (String × DataW Unit) := Rows.decodeNamesRow.laid
/-- The listed variable's name. -/
def nm (i : Nat) : String := (laidE.map (·.1)).getD i default
theorem et : Tryd.prog.globalNamed (nm 0) = some 0 := by kernel_rfl
theorem rt : (Tryd.prog.cutTypes.find? (·.1 == (match Rows.laid_errors_errorType (H := Unit) with | .iface s _ => s | _ => default))).map (·.2) = some 61 := by kernel_rfl
theorem oneRow : ((List.range 109).filter fun t => Tryd.prog.rowNamed t [101, 114, 114, 111, 114]) = [24] := by kernel_rfl
theorem size : Tryd.prog.types.size = 109 := by kernel_rfl
/-- What the condition gives a walk: the variable's one cell. -/
theorem handle_of_laid {W : World} (h : laidMetH Tryd.prog laidE W) : ErrT W := by
  have h' : laidMet Tryd.prog [] W ∧ handlesMet Tryd.prog laidE W := h
  obtain ⟨name, u, ty, e1, e2, e3, e4, e5⟩ := h'.2 _ (List.mem_singleton.2 rfl)
  have en : name = [101, 114, 114, 111, 114] := (Option.some.inj e1).symm
  subst en
  obtain rfl := Option.some.inj (rt.symm.trans e2)
  have hm : ty ∈ (List.range 109).filter fun t => Tryd.prog.rowNamed t [101, 114, 114, 111, 114] := List.mem_filter.2 ⟨List.mem_range.2 (by rw [← size]; exact e3), e4⟩
  rw [oneRow] at hm
  obtain rfl := List.mem_singleton.1 hm
  have hh : typeHandle Tryd.prog 24 = .pointer (some ⟨1, 24, none⟩) := by kernel_rfl
  rw [hh] at e5
  have := World.var?_cell et e5 0
  unfold ErrT
  simpa using this
/-- A world that meets the condition: the settled one, the variable's cell laid. -/
noncomputable def laidWorld (os : Os) : World :=
  let w0 := World.holding Tryd.prog os ⟨#[], #[], []⟩
  { w0 with heap := w0.heap.modify 0 fun
      | .cells _ t frozen => .cells #[.iface 61 (.agg #[.pointer (some ⟨1, 24, none⟩)])] t frozen
      | o => o }
theorem laidWorld_met (os : Os) (args : Array Value) : laidMetH Tryd.prog laidE ((laidWorld os).forCall (fun _ _ => 0) ⟨#[], args, []⟩).memory :=
  laidMetH_of_parts (laidMet_nil _ _) (by kernel_rfl)
set_option maxRecDepth 100000 in
theorem lifted (os : Os) (started : os.Started) (H : Type) (enc : TypeId × Value → H) :
    ReturnsInHanded {} Tryd.checked os 3 .any (fun w args => (Rows.decodeNamesSpec.pre enc Tryd.prog Tryd.f3 Rows.decodeNamesRow.domain false w args ∧ laidMetH Tryd.prog laidE w) ∧ sizedMet enc Tryd.prog Tryd.f3 (OpenSpec.ofChange Rows.decodeNamesSpec) false w args)
      (Rows.decodeNamesSpec.post enc Tryd.prog Tryd.f3 false true false false) :=
  lift_laid (C := Tryd.checked) (n := 6) (Ts := [.int .i64]) (tb := 4) (laid := laidE) own started (by kernel_rfl) Tryd.func3
    (ChangeSpec.witness_at (enc := enc) (C := Tryd.checked) (os := os) (X := fun w _ => laidMetH Tryd.prog laidE w) false (laidWorld os) #[.int .i64 0] 8 rfl (by kernel_rfl) (by kernel_rfl) (by kernel_rfl) (by kernel_rfl) (by kernel_rfl) (laidWorld_met os _))
    laidOut (by kernel_rfl) (by kernel_rfl) rfl Tryd.underlying4 rfl (fun ds hl => match ds, hl with | [_], _ => rfl)
    (fun W vals xs hL hx hv h1 h2 => match vals, xs, hv, hx with
      | [v0], [x0], _, _ => by
        have h0 := h1 0 _ _ rfl rfl
        cases h0
        have d0 := h2 0 _ _ rfl rfl
        cases d0
        exact names_any _ W (handle_of_laid hL))
theorem holds : Rows.DecodeNamesSaid :=
  OpenClaim.holds_of_wide 3 Tryd.f3 rfl rfl rfl rfl rfl rfl rfl ⟨rfl, rfl, rfl, rfl, rfl⟩ rfl rfl rfl rfl rfl (by kernel_rfl) Tryd.func3 (by kernel_rfl)
    (of_decide_eq_true (by kernel_rfl)) (by unfold Func.isWrapper; first | (rw [if_pos (by decide +kernel)]; kernel_rfl) | (rw [if_neg (by decide +kernel)]; exact ⟨rfl, rfl⟩))
    (fun os started H enc _ => lifted os started H enc)
theorem proved : Rows.DecodeNamesCardSaid :=
  Claim7.holds_tied_plain_at .later [] [.handle] true (true, "517096e5e611346ed169471a4a83a875bdd67a1efbee54376b10750a517e3539") true holds (fun _ h => by cases h) (by kernel_rfl) (fun _ h => by cases h) decodeNames_row_tie rfl ⟨rfl, rfl⟩ (by kernel_rfl) rfl
    (fun f fn hf hfn => by
      obtain rfl : f = 3 := Option.some.inj ((show Tryd.prog.funcNamed Tryd.f3.name = some 3 by kernel_rfl).symm.trans hf) |>.symm
      obtain rfl : fn = Tryd.f3 := (Option.some.inj (Tryd.func3.symm.trans hfn)).symm
      exact ⟨by kernel_rfl, fun j t ht => by
        rw [Tryd.params3] at ht
        have hm : t ∈ [3] := by simpa using Array.mem_of_getElem? ht
        have hall : ([3].all fun u => !Tryd.prog.wantsStandIn u) = true := by kernel_rfl
        exact (show Tryd.prog.wantsStandIn t = false by simpa using List.all_eq_true.1 hall t hm)⟩)
    (by kernel_rfl)
end Go.Proofs.YtaihimaopedicaaDoor.decodeNames
