/- The law BlocksJoin: for every input it returns true, and each argument reads behind the call as it read before. No conditions. -/
import Derived.Test.YtaldmffahmomoaaRows
import Derived.Test.YtaldmffahmomoaaAv9L0
import Derived.Test.YtaldmffahmomoaaAvtg
set_option linter.unusedVariables false
set_option linter.unusedSimpArgs false
namespace Go.Proofs.Ytaldmffahmomoaa.blocksJoin
open Go.Av Go.ChangeShapes Go.WideShapes Go.RowKit
set_option maxRecDepth 100000 in
theorem lifted (os : Os) (started : os.Started) (H : Type) (enc : TypeId × Value → H) :
    ReturnsInHanded {} Try.checked os 5 .any (Rows.blocksJoinSpec.pre6 enc Try.prog Try.f5 Rows.blocksJoinRow.domain false) (Rows.blocksJoinSpec.post enc Try.prog Try.f5 false true false false) :=
  lift_true (C := Try.checked) (n := 6) (Ts := [.list 1 (.int .u8), .list 1 (.int .u8)]) (tb := 4) fine9 ext9_ok own started (by kernel_rfl) Try.func5
    (ChangeSpec.witness6 (enc := enc) (C := Try.checked) false ⟨#[], #[.slice none 0 0, .slice none 0 0], []⟩ 8 (by kernel_rfl) (by kernel_rfl) (by kernel_rfl) (by kernel_rfl))
    laidOut (by kernel_rfl) (by kernel_rfl) rfl Try.underlying4 rfl (fun ds hl => match ds, hl with | [_, _], _ => rfl) (fun W _ => gok9 _ _)
    (fun xs hl h => match xs, hl with
      | [a, b], _ => by
        obtain ⟨zs, rfl, hz⟩ := bytes_ok (h 0 _ _ rfl rfl)
        obtain ⟨ys, rfl, hy⟩ := bytes_ok (h 1 _ _ rfl rfl)
        exact ⟨_, law5_L zs ys hz hy⟩)
theorem over : Rows.blocksJoinRow.holds Try.pinned (OpenSpec.ofChange Rows.blocksJoinSpec) :=
  OpenClaim.holds_of_wide 5 Try.f5 rfl rfl rfl rfl rfl rfl rfl ⟨rfl, rfl, rfl, rfl, rfl⟩ rfl rfl rfl rfl rfl (by kernel_rfl) Try.func5 (by kernel_rfl)
    (of_decide_eq_true (by kernel_rfl)) (by unfold Func.isWrapper; first | (rw [if_pos (by decide +kernel)]; kernel_rfl) | (rw [if_neg (by decide +kernel)]; exact ⟨rfl, rfl⟩))
    (fun os started H enc _ => lifted os started H enc)
theorem proved : Rows.BlocksJoinSaid := over
end Go.Proofs.Ytaldmffahmomoaa.blocksJoin
