/- Chapter 6: the program is fine. -/
import Derived.Test.YtcblgonlgnhgmaaAv6y
set_option linter.unusedVariables false
set_option linter.unusedSimpArgs false
namespace Go.Av
open Go.Proofs
theorem nm6 : (Try.prog.funcs.all fun fn => !(fn.name == "runtime.NumGoroutine")) = true := by kernel_rfl
theorem mx6 : Try.prog.follows .mixedOrders = true := by kernel_rfl
theorem fine6 : Fine Try.prog := by
  refine ⟨mx6, fun f fn hf => ?_⟩
  have h := Array.all_eq_true_iff_forall_mem.1 nm6 fn (Array.mem_of_getElem? hf)
  simpa using h
end Go.Av
