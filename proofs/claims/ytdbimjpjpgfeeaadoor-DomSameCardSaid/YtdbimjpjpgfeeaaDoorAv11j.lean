/- Chapter 11: New, as the evaluator takes it. -/
import Derived.Test.YtdbimjpjpgfeeaaDoorAv11e
import Derived.Test.YtdbimjpjpgfeeaaDoorAv11i
import Derived.Test.YtdbimjpjpgfeeaaDoorAvb
import Derived.KernelRfl
set_option linter.unusedVariables false
set_option linter.unusedSimpArgs false
namespace Go.Av
open Go.Proofs Go.RowKit Go.Proofs.YtdbimjpjpgfeeaaDoor
def rangeOk (es : List D) : Bool := es.all fun e => decide (-1 ≤ ndP e) && decide (ndP e < 10000)
theorem rangeOk_inv {es : List D} (h : rangeOk es = true) : ∀ e ∈ es, -1 ≤ ndP e ∧ ndP e < 10000 := by
  unfold rangeOk at h
  simpa [List.all_eq_true] using h
noncomputable def ext11b (chk : List D → Bool) : Call := fun f args pbs => match f, args, pbs with
  | 12, [.list es], [] => if nodesOk es = true ∧ rangeOk es = true ∧ chk es = true then some (.tuple [treeD es, .con .nilIface], [], []) else none
  | _, _, _ => ext11a f args pbs
/-- chk says only of right documents that Check has nothing against them. -/
def ChkOK (chk : List D → Bool) : Prop := ∀ es, nodesOk es = true → chk es = true → ∃ N r, aev Tryd.prog ext11a N 24 [.list es] [] = some (.con .nilIface, r, [])
theorem den_con {c : Nat} {ν : Nat → Nat → Nat} {F : Nat → Nat → Prop} {w : World} {v u : Value} (h : Den c ν F w v (.con u)) : v = u := by
  cases h with
  | pure _ _ h => cases h; rfl
theorem ext11b_ok {chk : List D → Bool} (hchk : ChkOK chk) : CallOK Tryd.prog (ext11b chk) := by
  intro f args pbs d r pbs' h
  unfold ext11b at h
  split at h
  · rename_i es
    split at h
    · rename_i hc
      obtain ⟨h1, h2, h3⟩ := hc
      obtain ⟨hs, hl⟩ := nodesOk_inv h1
      simp only [Option.some.injEq, Prod.mk.injEq] at h
      obtain ⟨rfl, rfl, rfl⟩ := h
      obtain ⟨N, r, ev⟩ := hchk es h1 h3
      refine ⟨⟨_, Tryd.func12, rfl⟩, fun vals w F μ hv hd hb hi hlt hg => ?_⟩
      obtain ⟨v, rfl, h0⟩ := one_den hv hd
      refine (new_any es F w v hlt (den_list0 h0) hs (by omega) (rangeOk_inv h2) ?_).mono fun e w' h => h.ret hlt
      obtain ⟨_, hcall⟩ := aev_sound fine11 ext11a_ok N 24 [.list es] [] _ _ _ ev
      refine (hcall [v] w F μ rfl hd hb hi hlt hg).mono ?_
      intro e w' hr
      obtain ⟨u, rfl, hG, hu⟩ := hr.retD
      rw [den_con (hu 0 fun _ _ => 0)]
      exact ⟨rfl, hG⟩
    · cases h
  · exact ext11a_ok f args pbs d r pbs' h
end Go.Av
