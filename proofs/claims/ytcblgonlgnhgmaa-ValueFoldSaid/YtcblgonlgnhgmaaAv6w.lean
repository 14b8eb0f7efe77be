/- Chapter 6: what is known of the library's functions holds in the model (IndexByte). -/
import Derived.Test.YtcblgonlgnhgmaaAv6v
set_option linter.unusedVariables false
set_option linter.unusedSimpArgs false
set_option linter.unusedSectionVars false
namespace Go.Av
open Go.Proofs Go.RowKit
theorem ret_same [Gs] {P : Program} {μ : Nat → Nat} {F : Nat → Nat → Prop} {w : World} {v : Value} {d : D} (hv : Den0 F w v d) (hlt : Lt F w) : Ret P 0 μ F w d [] [] (.returned v) w :=
  ⟨v, F, fun _ => none, rfl, Ext.refl _ _ _, hlt, fun b o h => .inl h, .inl ⟨rfl, fun c ν => .pure _ _ hv, rooms_nil⟩, fun i g h => (by cases h), fun i i' g h => (by cases h), fun i bx hi => absurd hi (Nat.not_lt_zero i)⟩
theorem two_args {c : Nat} {ν : Nat → Nat → Nat} {F : Nat → Nat → Prop} {w : World} {vals : List Value} {d1 d2 : D} (hl : vals.length = [d1, d2].length) (h : ∀ (i : Nat) (v : Value) (x : D), vals[i]? = some v → [d1, d2][i]? = some x → Den c ν F w v x) :
    ∃ v1 v2, vals = [v1, v2] ∧ Den c ν F w v1 d1 ∧ Den c ν F w v2 d2 := by
  match vals, hl with
  | [v1, v2], _ => exact ⟨v1, v2, rfl, h 0 v1 d1 rfl rfl, h 1 v2 d2 rfl rfl⟩
theorem ext36 (s : List UInt8) (c : Int) {vals : List Value} {w : World} {F : Nat → Nat → Prop} {μ : Nat → Nat} (hl : vals.length = [D.str s, .int .u8 c].length)
    (h : ∀ (i : Nat) (v : Value) (x : D), vals[i]? = some v → [D.str s, .int .u8 c][i]? = some x → Den 1 (argNu μ) F w v x) (hlt : Lt F w) :
    Calls Try.prog 36 vals.toArray w (Ret Try.prog 0 μ F w (.int .i64 (idxB (UInt8.ofNat c.toNat) 0 s)) [] []) := by
  obtain ⟨v1, v2, rfl, h1, h2⟩ := two_args hl h
  rw [h1.str_, h2.int_]
  have hc : Calls Try.prog 36 #[.string ⟨s.toArray⟩, .int .u8 c] w _ := Any.strings_IndexByte Try.laysIB ⟨s.toArray⟩ c w
  refine hc.mono ?_
  rintro e w' ⟨rfl, rfl⟩
  rw [index_idxB]
  exact ret_same (.int _ _) hlt
end Go.Av
