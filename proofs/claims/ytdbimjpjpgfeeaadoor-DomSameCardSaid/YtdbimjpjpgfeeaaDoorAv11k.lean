/- Chapter 11: the example of the document. -/
import Derived.Test.YtdbimjpjpgfeeaaDoorAv11j
set_option linter.unusedVariables false
set_option linter.unusedSimpArgs false
namespace Go.Av
open Go.Proofs Go.RowKit Go.Proofs.YtdbimjpjpgfeeaaDoor
noncomputable def chkA (es : List D) : Bool := match aev Tryd.prog ext11a 300 24 [.list es] [] with
  | some (.con .nilIface, _, []) => true
  | _ => false
theorem chkA_ok : ChkOK chkA := by
  intro es _ h
  unfold chkA at h
  split at h
  · rename_i r he
    exact ⟨300, r, he⟩
  · cases h
theorem ext11_ok : CallOK Tryd.prog (ext11b chkA) := ext11b_ok chkA_ok
theorem speaks11 : aev Tryd.prog (ext11b chkA) 300 7 [] [] = some (.bool true, [.no], []) := by kernel_rfl
end Go.Av
