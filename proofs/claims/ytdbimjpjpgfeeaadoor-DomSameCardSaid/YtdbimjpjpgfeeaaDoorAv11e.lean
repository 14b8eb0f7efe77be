/- Chapter 11: what is known of functions that were walked by hand. -/
import Derived.Test.YtdbimjpjpgfeeaaDoorAv11hc
import Derived.Test.YtdbimjpjpgfeeaaDoorAv11b
set_option linter.unusedVariables false
set_option linter.unusedSimpArgs false
namespace Go.Av
open Go.Proofs Go.RowKit Go.Proofs.YtdbimjpjpgfeeaaDoor
def szAll (sz : Nat) (es : List D) : Bool := es.all (fun e => (dcells e).length == sz) && decide (es.length ≤ 1000000)
theorem szAll_inv {sz : Nat} {es : List D} (h : szAll sz es = true) : (∀ e ∈ es, (dcells e).length = sz) ∧ es.length ≤ 1000000 := by
  unfold szAll at h
  simp only [Bool.and_eq_true, List.all_eq_true, beq_iff_eq, decide_eq_true_eq] at h
  exact h
def nodesOk (es : List D) : Bool := es.all isNode && decide (es.length ≤ 10000)
theorem nodesOk_inv {es : List D} (h : nodesOk es = true) : (∀ e ∈ es, isNode e = true) ∧ es.length ≤ 10000 := by
  unfold nodesOk at h
  simp only [Bool.and_eq_true, List.all_eq_true, decide_eq_true_eq] at h
  exact h
def ext11a : Call := fun f args pbs => match f, args, pbs with
  | 32, [.list es], [] => if szAll 1 es = true then some (.list es, [], []) else none
  | 46, [.list es], [] => if szAll 3 es = true then some (.list es, [], []) else none
  | 47, [.list es], [] => if szAll 1 es = true then some (.list es, [], []) else none
  | 30, [d], [] => if isNode d = true then some (d, [], []) else none
  | 19, [.list es], [] => if nodesOk es = true then some (.list es, [], []) else none
  | _, _, _ => none
theorem mx11 : Tryd.prog.follows .mixedOrders = true := by kernel_rfl
theorem nm11 : (Tryd.prog.funcs.all fun fn => !(fn.name == "runtime.NumGoroutine")) = true := by kernel_rfl
theorem fine11 : Fine Tryd.prog := by
  refine ⟨mx11, fun f fn hf => ?_⟩
  have h := Array.all_eq_true_iff_forall_mem.1 nm11 fn (Array.mem_of_getElem? hf)
  simpa using h
theorem den_list0 {c : Nat} {ν : Nat → Nat → Nat} {F : Nat → Nat → Prop} {w : World} {v : Value} {es : List D} (h : Den c ν F w v (.list es)) : Den0 F w v (.list es) := by
  cases h with
  | pure _ _ h => exact h
theorem node_pure {d : D} (h : isNode d = true) : ∀ {c ν F w v}, Den c ν F w v d → ∃ p k sp nm la ls tx v4 v5, d = .agg [.int .i64 p, .int .i64 k, .str sp, .str nm, .list la, .list ls, .str tx] ∧ v = .agg #[.int .i64 p, .int .i64 k, .string ⟨sp.toArray⟩, .string ⟨nm.toArray⟩, v4, v5, .string ⟨tx.toArray⟩] ∧
    Den0 F w v4 (.list la) ∧ Den0 F w v5 (.list ls) ∧ v4.oneCell' = true ∧ v5.oneCell' = true := by
  intro c ν F w v hd
  obtain ⟨p, k, sp, nm, la, ls, tx, rfl, _⟩ := isNode_inv h
  have key : ∀ vs : List Value, vs.length = 7 → (∀ (i : Nat) (v : Value) (x : D), vs[i]? = some v → [D.int .i64 p, .int .i64 k, .str sp, .str nm, .list la, .list ls, .str tx][i]? = some x → Den c ν F w v x) →
      ∃ v4 v5, vs.toArray = #[.int .i64 p, .int .i64 k, .string ⟨sp.toArray⟩, .string ⟨nm.toArray⟩, v4, v5, .string ⟨tx.toArray⟩] ∧ Den0 F w v4 (.list la) ∧ Den0 F w v5 (.list ls) := by
    intro vs hl hh
    match vs, hl with
    | [u0, u1, u2, u3, u4, u5, u6], _ =>
      have h0 := (hh 0 u0 _ rfl rfl).int_
      have h1 := (hh 1 u1 _ rfl rfl).int_
      have h2 := (hh 2 u2 _ rfl rfl).str_
      have h3 := (hh 3 u3 _ rfl rfl).str_
      have h4 := den_list0 (hh 4 u4 _ rfl rfl)
      have h5 := den_list0 (hh 5 u5 _ rfl rfl)
      have h6 := (hh 6 u6 _ rfl rfl).str_
      subst h0 h1 h2 h3 h6
      exact ⟨u4, u5, rfl, h4, h5⟩
  have one : ∀ {u : Value} {l : List D}, Den0 F w u (.list l) → u.oneCell' = true := by
    intro u l h
    cases h
    rfl
  cases hd with
  | pure _ _ hp =>
    cases hp with
    | agg vs cs h1 h2 h3 =>
      obtain ⟨v4, v5, e, h4, h5⟩ := key vs h1 fun i v d a b => .pure _ _ (h3 i v d a b)
      exact ⟨p, k, sp, nm, la, ls, tx, v4, v5, rfl, by rw [e], h4, h5, one h4, one h5⟩
  | agg vs cs h1 h2 h3 =>
    obtain ⟨v4, v5, e, h4, h5⟩ := key vs h1 h3
    exact ⟨p, k, sp, nm, la, ls, tx, v4, v5, rfl, by rw [e], h4, h5, one h4, one h5⟩
theorem node_den {F : Nat → Nat → Prop} {w : World} {p k : Int} {sp nm tx : List UInt8} {la ls : List D} {v4 v5 : Value} (h4 : Den0 F w v4 (.list la)) (h5 : Den0 F w v5 (.list ls)) (o4 : v4.oneCell' = true) (o5 : v5.oneCell' = true) :
    Den0 F w (.agg #[.int .i64 p, .int .i64 k, .string ⟨sp.toArray⟩, .string ⟨nm.toArray⟩, v4, v5, .string ⟨tx.toArray⟩]) (.agg [.int .i64 p, .int .i64 k, .str sp, .str nm, .list la, .list ls, .str tx]) := by
  refine Den0.agg [.int .i64 p, .int .i64 k, .string ⟨sp.toArray⟩, .string ⟨nm.toArray⟩, v4, v5, .string ⟨tx.toArray⟩] _ rfl ?_ ?_
  · intro u hu
    simp only [List.mem_cons, List.not_mem_nil, or_false] at hu
    rcases hu with rfl | rfl | rfl | rfl | rfl | rfl | rfl <;> first | rfl | exact o4 | exact o5
  · intro i v x hv hx
    match i with
    | 0 => simp at hv hx; subst hv; subst hx; exact .int _ _
    | 1 => simp at hv hx; subst hv; subst hx; exact .int _ _
    | 2 => simp at hv hx; subst hv; subst hx; exact .str _
    | 3 => simp at hv hx; subst hv; subst hx; exact .str _
    | 4 => simp at hv hx; subst hv; subst hx; exact h4
    | 5 => simp at hv hx; subst hv; subst hx; exact h5
    | 6 => simp at hv hx; subst hv; subst hx; exact .str _
    | i + 7 => simp at hv
theorem ext11a_ok : CallOK Tryd.prog ext11a := by
  intro f args pbs d r pbs' h
  unfold ext11a at h
  split at h
  · rename_i es
    split at h
    · rename_i hc
      obtain ⟨hs, hl⟩ := szAll_inv hc
      simp only [Option.some.injEq, Prod.mk.injEq] at h
      obtain ⟨rfl, rfl, rfl⟩ := h
      refine ⟨⟨_, Tryd.func32, rfl⟩, fun vals w F μ hv hd hb _ hlt hg => ?_⟩
      obtain ⟨v, rfl, h0⟩ := one_den hv hd
      exact (clone32_any es F w v hlt (den_list0 h0) hs (by omega)).mono fun e w' h => h.ret hlt
    · cases h
  · rename_i es
    split at h
    · rename_i hc
      obtain ⟨hs, hl⟩ := szAll_inv hc
      simp only [Option.some.injEq, Prod.mk.injEq] at h
      obtain ⟨rfl, rfl, rfl⟩ := h
      refine ⟨⟨_, Tryd.func46, rfl⟩, fun vals w F μ hv hd hb _ hlt hg => ?_⟩
      obtain ⟨v, rfl, h0⟩ := one_den hv hd
      exact (clone46_any es F w v hlt (den_list0 h0) hs (by omega)).mono fun e w' h => h.ret hlt
    · cases h
  · rename_i es
    split at h
    · rename_i hc
      obtain ⟨hs, hl⟩ := szAll_inv hc
      simp only [Option.some.injEq, Prod.mk.injEq] at h
      obtain ⟨rfl, rfl, rfl⟩ := h
      refine ⟨⟨_, Tryd.func47, rfl⟩, fun vals w F μ hv hd hb _ hlt hg => ?_⟩
      obtain ⟨v, rfl, h0⟩ := one_den hv hd
      exact (clone47_any es F w v hlt (den_list0 h0) hs (by omega)).mono fun e w' h => h.ret hlt
    · cases h
  · rename_i d0
    split at h
    · rename_i hc
      simp only [Option.some.injEq, Prod.mk.injEq] at h
      obtain ⟨rfl, rfl, rfl⟩ := h
      refine ⟨⟨_, Tryd.func30, rfl⟩, fun vals w F μ hv hd hb _ hlt hg => ?_⟩
      obtain ⟨v, rfl, h0⟩ := one_den hv hd
      obtain ⟨p, k, sp, nm, la, ls, tx, v4, v5, rfl, rfl, h4, h5, o4, o5⟩ := node_pure hc h0
      obtain ⟨_, _, _, _, la', ls', _, e, s4, s5, l4, l5⟩ := isNode_inv hc
      simp only [D.agg.injEq, List.cons.injEq, D.list.injEq, and_true] at e
      obtain ⟨_, _, _, _, rfl, rfl, _⟩ := e
      refine (copied_any p k ⟨sp.toArray⟩ ⟨nm.toArray⟩ ⟨tx.toArray⟩ v4 v5 la ls F w hlt h4 h5 s4 s5 (by omega) (by omega) o4 o5).mono ?_
      rintro e w' ⟨u4, u5, rfl, hG, q4, q5, p4, p5⟩
      exact (RetD.of hG (node_den q4 q5 p4 p5)).ret hlt
    · cases h
  · rename_i es
    split at h
    · rename_i hc
      obtain ⟨hs, hl⟩ := nodesOk_inv hc
      simp only [Option.some.injEq, Prod.mk.injEq] at h
      obtain ⟨rfl, rfl, rfl⟩ := h
      refine ⟨⟨_, Tryd.func19, rfl⟩, fun vals w F μ hv hd hb _ hlt hg => ?_⟩
      obtain ⟨v, rfl, h0⟩ := one_den hv hd
      exact (lcopied_any es F w v hlt (den_list0 h0) hs (by omega)).mono fun e w' h => h.ret hlt
    · cases h
  · cases h
end Go.Av
