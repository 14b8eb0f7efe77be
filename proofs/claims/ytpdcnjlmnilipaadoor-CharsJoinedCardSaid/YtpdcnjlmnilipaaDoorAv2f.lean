/- strconv.FormatInt at base 16. Conditions: the table of math/bits lies in memory. -/
import Derived.Test.YtpdcnjlmnilipaaDoorMem
import Derived.Test.YtpdcnjlmnilipaaDoorChecked
import Derived.Deep.QuietTactic
import Derived.BigQuiet
import Derived.Lib.Hide
import Derived.IntWalk
set_option linter.unusedSimpArgs false
set_option linter.unusedVariables false
namespace Go.Proofs.YtpdcnjlmnilipaaDoor
open Go.RowKit
/-- What is read of the table deBruijn64tab: its entry 15. -/
def TabT (w : World) : Prop := w.cell? ⟨3, 15, none⟩ = some (.int .u8 4)
theorem trail_any (w : World) (hT : TabT w) : Calls Tryd.prog 68 #[.int .u64 16] w fun e w' => e = .returned (.int .i64 4) ∧ w' = w := by
  unfold TabT at hT
  have h1 : IntKind.u64.wrap (-16) = 18446744073709551600 := rfl
  have h2 : bits .and .u64 16 18446744073709551600 = 16 := rfl
  have h3 : IntKind.u64.wrap (16 * 285870213051353865) = 4573923408821661840 := rfl
  have h4 : (4573923408821661840 : Int) / 288230376151711744 = 15 := rfl
  have h5 : ((15 : Int)).toNat = 15 := rfl
  go_enter Tryd.func68, Tryd.ntmps68
  go_wp2
  go_ret
  exact ⟨rfl, rfl⟩
theorem pow_any (w : World) : Calls Tryd.prog 67 #[.int .i64 16] w fun e w' => e = .returned (.bool true) ∧ w' = w := by
  have h2 : bits .and .i64 16 15 = 0 := rfl
  go_enter Tryd.func67, Tryd.ntmps67
  go_wp2
  go_ret
  exact ⟨rfl, rfl⟩
end Go.Proofs.YtpdcnjlmnilipaaDoor
