/- Chapter 11: what a walk by hand hands back, said as the evaluator says it; slices.Clone at three types. -/
import Derived.Test.YtdbimjpjpgfeeaaDoorAv11g
import Derived.Test.YtdbimjpjpgfeeaaDoorApp
import Derived.Test.YtdbimjpjpgfeeaaDoorOwn
import Derived.Test.YtdbimjpjpgfeeaaDoorChecked
set_option linter.unusedVariables false
set_option linter.unusedSimpArgs false
set_option linter.unusedSectionVars false
set_option maxRecDepth 100000
namespace Go.Av
open Go.Proofs Go.RowKit Go.Proofs.YtdbimjpjpgfeeaaDoor
/-- What was fixed, and every new block. -/
def nw (F : Nat → Nat → Prop) (w w' : World) : Nat → Nat → Prop := fun b o => F b o ∨ (w.heap.size ≤ b ∧ b < w'.heap.size)
theorem ext_nw {F : Nat → Nat → Prop} {w w' : World} (hlt : Lt F w) (hb : Below w.heap.size w w') : Ext (fun _ => False) F w (nw F w w') w' := by
  refine ⟨hb.os, hb.tape, hb.output, hb.size, fun b h _ => hb.block b h, fun b o h => .inl h, fun b o h => ?_, fun b es c hf hm => (hb.block b (hlt b 0 hf)).trans hm⟩
  unfold World.cell?
  rw [hb.block b (hlt b o h)]
theorem lt_nw {F : Nat → Nat → Prop} {w w' : World} (hlt : Lt F w) (hb : Below w.heap.size w w') : Lt (nw F w w') w' := by
  rintro b o (h | h)
  · exact Nat.lt_of_lt_of_le (hlt b o h) hb.size
  · exact h.2
theorem nw_step {F : Nat → Nat → Prop} {w w1 w2 : World} (h1 : w.heap.size ≤ w1.heap.size) (h2 : w1.heap.size ≤ w2.heap.size) : ∀ b o, nw (nw F w w1) w1 w2 b o → nw F w w2 b o := by
  rintro b o ((h | h) | h)
  · exact .inl h
  · exact .inr ⟨h.1, Nat.lt_of_lt_of_le h.2 h2⟩
  · exact .inr ⟨Nat.le_trans h1 h.1, h.2⟩
theorem Den0.grow {F F' : Nat → Nat → Prop} {w : World} {v : Value} {d : D} (h : Den0 F w v d) (hF : ∀ b o, F b o → F' b o) : Den0 F' w v d :=
  h.ext (S := fun _ => False) ⟨rfl, rfl, rfl, Nat.le_refl _, fun _ _ _ => rfl, hF, fun _ _ _ => rfl, fun _ _ _ _ hm => hm⟩
/-- A call hands this back, in new memory or in what was fixed. -/
def RetD (F : Nat → Nat → Prop) (w : World) (d : D) (e : Ending) (w' : World) : Prop := ∃ v, e = .returned v ∧ Below w.heap.size w w' ∧ ∀ c ν, Den c ν (nw F w w') w' v d
theorem RetD.ret [Gs] {P : Program} {μ : Nat → Nat} {F : Nat → Nat → Prop} {w w' : World} {d : D} {e : Ending} (hlt : Lt F w) (h : RetD F w d e w') : Ret P 0 μ F w d [] [] e w' := by
  obtain ⟨v, rfl, hb, hv⟩ := h
  exact ⟨v, nw F w w', fun _ => none, rfl, (ext_nw hlt hb).weaken (fun _ _ h => h.elim), lt_nw hlt hb, fun b o h => h.imp id fun h => h.1, .inl ⟨rfl, hv, rooms_nil⟩, fun i g h => (by cases h), fun i i' g h => (by cases h), fun i bx hi => absurd hi (Nat.not_lt_zero i)⟩
theorem RetD.of {F : Nat → Nat → Prop} {w w' : World} {v : Value} {d : D} (hb : Below w.heap.size w w') (hv : Den0 (nw F w w') w' v d) : RetD F w d (.returned v) w' := ⟨v, rfl, hb, fun _ _ => .pure _ _ hv⟩
theorem Ret.retD [Gs] {P : Program} {μ : Nat → Nat} {F : Nat → Nat → Prop} {w w' : World} {d : D} {r : List Room} {e : Ending} (h : Ret P 0 μ F w d r [] e w') : RetD F w d e w' := by
  obtain ⟨v, F', ncl, rfl, hE, hlt, hn, hv, _⟩ := h
  refine ⟨v, rfl, ⟨hE.os, hE.tape, hE.output, hE.size, fun b hb => hE.block b hb (by rintro ⟨i, hi, _⟩; exact absurd hi (Nat.not_lt_zero i))⟩, ?_⟩
  rcases hv with ⟨_, hv, _⟩ | ⟨h1, _⟩
  · exact fun c ν => (hv c ν).ext (S := fun _ => False) ⟨rfl, rfl, rfl, Nat.le_refl _, fun _ _ _ => rfl, fun b o h => (hn b o h).imp id fun h' => ⟨h', hlt b o h⟩, fun _ _ _ => rfl, fun _ _ _ _ hm => hm⟩
  · simp at h1
/-- A list in memory, as the laws on append take it. -/
theorem list_sl {F : Nat → Nat → Prop} {w : World} {v : Value} {es : List D} {sz : Nat} (hlt : Lt F w) (h : Den0 F w v (.list es)) (hs : ∀ e ∈ es, (dcells e).length = sz) :
    ∃ a c vs, v = .slice a es.length c ∧ es.length ≤ c ∧ vs.length = es.length * sz ∧ Sl w w.heap.size a vs ∧ (∀ u ∈ vs, u.oneCell' = true) ∧ ∀ (i : Nat) (v : Value) (x : D), vs[i]? = some v → (flat es)[i]? = some x → Den0 F w v x := by
  cases h with
  | list a n c sz' es vs h1 h2 h3 h4 h5 h6 h7 =>
    subst h1
    have hl : vs.length = es.length * sz := by
      rcases es with _ | ⟨e0, r0⟩
      · simpa using h5
      · rw [h5, ← h4 e0 (by simp), ← hs e0 (by simp)]
    refine ⟨a, c, vs, rfl, h2, hl, ?_, ?_, h7⟩
    · intro hne
      rcases h6 with h6 | ⟨b, off, ha, hc⟩
      · exact absurd h6 hne
      · refine ⟨b, off, ha, ?_, fun i hi => (hc i _ (List.getElem?_eq_getElem hi)).2.1⟩
        have := (hc 0 _ (List.getElem?_eq_getElem (List.length_pos_iff.2 hne))).1
        exact hlt _ _ this
    · intro u hu
      rcases h6 with h6 | ⟨b, off, ha, hc⟩
      · rw [h6] at hu; cases hu
      · obtain ⟨i, hi⟩ := List.mem_iff_getElem?.1 hu
        exact (hc i _ hi).2.2
/-- A row of the call's own reads as a list. -/
theorem own_den {F : Nat → Nat → Prop} {w : World} {base n sz : Nat} {e : TypeId} {v : Value} {vs : List Value} {es : List D} (hown : OwnR w base e sz v n vs) (hn : n = es.length) (hsz : 0 < sz) (hs : ∀ e ∈ es, (dcells e).length = sz)
    (hF : ∀ b o, base ≤ b → b < w.heap.size → F b o) (h1 : ∀ u ∈ vs, u.oneCell' = true) (hd : ∀ (i : Nat) (v : Value) (x : D), vs[i]? = some v → (flat es)[i]? = some x → Den0 F w v x) : Den0 F w v (.list es) := by
  rcases hown with ⟨h0, hv0, A, rfl⟩ | ⟨hl, ⟨rfl, h0⟩ | ⟨g, cap, cur, rfl, hg, hh, hc, hm, hcs, ht⟩⟩
  · subst hv0
    exact .list A 0 0 sz es [] (by omega) (Nat.le_refl _) hsz hs (by simp) (.inl rfl) hd
  · exact .list none 0 0 sz es vs (by omega) (Nat.le_refl _) hsz hs (by rw [hl, h0]) (.inl (List.eq_nil_of_length_eq_zero (by rw [hl, h0]; simp))) hd
  · refine .list _ n cap sz es vs hn.symm hc hsz hs hl (.inr ⟨g, 0, rfl, fun i v hv => ?_⟩) hd
    have hgl : g < w.heap.size := (Array.getElem?_eq_some_iff.1 hh).1
    refine ⟨hF _ _ hg hgl, ?_, h1 v (List.mem_of_getElem? hv)⟩
    rw [← ht, List.getElem?_take] at hv
    split at hv
    · unfold World.cell?
      simp only [hh, Nat.zero_add]
      simpa using hv
    · cases hv
theorem one_den {c : Nat} {ν : Nat → Nat → Nat} {F : Nat → Nat → Prop} {w : World} {vals : List Value} {d : D} (hl : vals.length = [d].length) (h : ∀ (i : Nat) (v : Value) (x : D), vals[i]? = some v → [d][i]? = some x → Den c ν F w v x) : ∃ v, vals = [v] ∧ Den c ν F w v d := by
  match vals, hl with
  | [v], _ => exact ⟨v, rfl, h 0 v d rfl rfl⟩

theorem ei39 : EI Tryd.prog 39 3 1 8 := EI.mk (z := .int .i64 0) (by kernel_rfl) (by kernel_rfl) rfl (by decide)
theorem clone32_any (es : List D) (F : Nat → Nat → Prop) (w : World) (v : Value) (hlt : Lt F w) (hd : Den0 F w v (.list es)) (hs : ∀ e ∈ es, (dcells e).length = 1) (hL : es.length ≤ 1000000000) :
    Calls Tryd.prog 32 #[v] w (RetD F w (.list es)) := by
  obtain ⟨a, c, vs, rfl, hc, hvl, hsl, h1, hx⟩ := list_sl hlt hd hs
  have hs0 := hsl.alloc (Nat.le_refl _) (.cells #[] 3)
  have ho0 : OwnR (w.alloc (.cells #[] 3)) w.heap.size 3 1 (.slice (some ⟨w.heap.size, 0, none⟩) 0 0) 0 [] := .inl ⟨rfl, rfl, _, rfl⟩
  cases a with
  | none =>
    have hvs : vs = [] := by
      apply Classical.byContradiction
      intro hne
      obtain ⟨b, off, e, _⟩ := hsl hne
      cases e
    have he : es = [] := List.eq_nil_of_length_eq_zero (by rw [hvs] at hvl; simp at hvl; omega)
    subst he
    have qT : ∀ (w : World) (a : Option Addr) (n c : Nat), (binOp .eql 39 (.slice a n c) (.slice none 0 0)).run Tryd.prog w = .ok (.bool a.isNone) w := fun w a n c => Lib.run_eql_slice_nil w _ _ a n c 0 0 (show Tryd.prog.underlying 39 = some (.slice 3) by kernel_rfl)
    go_enter Tryd.func32, Tryd.ntmps32
    go_wp2_with fail
    go_ret
    exact RetD.of (Below.refl _ _) (.list none 0 0 1 [] [] rfl (Nat.le_refl _) (by decide) hs rfl (.inl rfl) (by simp))
  | some p =>
    have qT : ∀ (w : World) (a : Option Addr) (n c : Nat), (binOp .eql 39 (.slice a n c) (.slice none 0 0)).run Tryd.prog w = .ok (.bool a.isNone) w := fun w a n c => Lib.run_eql_slice_nil w _ _ a n c 0 0 (show Tryd.prog.underlying 39 = some (.slice 3) by kernel_rfl)
    go_enter Tryd.func32, Tryd.ntmps32
    go_wp2_with (at_builtin; refine app_slR _ rfl (.tmp 5) (.tmp 6) 39 rfl ei39 w.heap.size _ 0 [] rfl ho0 w.heap.size (some p) es.length c vs rfl hs0 hvl h1 (by simp only [maxLen]; omega) (by omega) (by simp) ?_; intro v w1 ho1 hg1 hb1)
    go_ret
    have hb : Below w.heap.size w w1 := ((Below.refl _ w).alloc (Nat.le_refl _) _).trans hb1
    refine RetD.of hb (own_den ho1 (by simp) (by decide) hs (fun b o h1 h2 => .inr ⟨h1, h2⟩) (by simpa using h1) fun i v x hv hxx => ?_)
    exact (hx i v x (by simpa using hv) hxx).ext (ext_nw hlt hb)

theorem ei23 : EI Tryd.prog 23 54 3 48 := EI.mk (z := .agg #[.string ⟨#[]⟩, .string ⟨#[]⟩, .string ⟨#[]⟩]) (by kernel_rfl) (by kernel_rfl) rfl (by decide)
theorem clone46_any (es : List D) (F : Nat → Nat → Prop) (w : World) (v : Value) (hlt : Lt F w) (hd : Den0 F w v (.list es)) (hs : ∀ e ∈ es, (dcells e).length = 3) (hL : es.length ≤ 1000000000) :
    Calls Tryd.prog 46 #[v] w (RetD F w (.list es)) := by
  obtain ⟨a, c, vs, rfl, hc, hvl, hsl, h1, hx⟩ := list_sl hlt hd hs
  have hs0 := hsl.alloc (Nat.le_refl _) (.cells #[] 54)
  have ho0 : OwnR (w.alloc (.cells #[] 54)) w.heap.size 54 3 (.slice (some ⟨w.heap.size, 0, none⟩) 0 0) 0 [] := .inl ⟨rfl, rfl, _, rfl⟩
  cases a with
  | none =>
    have hvs : vs = [] := by
      apply Classical.byContradiction
      intro hne
      obtain ⟨b, off, e, _⟩ := hsl hne
      cases e
    have he : es = [] := List.eq_nil_of_length_eq_zero (by rw [hvs] at hvl; simp at hvl; omega)
    subst he
    have qT : ∀ (w : World) (a : Option Addr) (n c : Nat), (binOp .eql 23 (.slice a n c) (.slice none 0 0)).run Tryd.prog w = .ok (.bool a.isNone) w := fun w a n c => Lib.run_eql_slice_nil w _ _ a n c 0 0 (show Tryd.prog.underlying 23 = some (.slice 54) by kernel_rfl)
    go_enter Tryd.func46, Tryd.ntmps46
    go_wp2_with fail
    go_ret
    exact RetD.of (Below.refl _ _) (.list none 0 0 3 [] [] rfl (Nat.le_refl _) (by decide) hs rfl (.inl rfl) (by simp))
  | some p =>
    have qT : ∀ (w : World) (a : Option Addr) (n c : Nat), (binOp .eql 23 (.slice a n c) (.slice none 0 0)).run Tryd.prog w = .ok (.bool a.isNone) w := fun w a n c => Lib.run_eql_slice_nil w _ _ a n c 0 0 (show Tryd.prog.underlying 23 = some (.slice 54) by kernel_rfl)
    go_enter Tryd.func46, Tryd.ntmps46
    go_wp2_with (at_builtin; refine app_slR _ rfl (.tmp 5) (.tmp 6) 23 rfl ei23 w.heap.size _ 0 [] rfl ho0 w.heap.size (some p) es.length c vs rfl hs0 hvl h1 (by simp only [maxLen]; omega) (by omega) (by simp) ?_; intro v w1 ho1 hg1 hb1)
    go_ret
    have hb : Below w.heap.size w w1 := ((Below.refl _ w).alloc (Nat.le_refl _) _).trans hb1
    refine RetD.of hb (own_den ho1 (by simp) (by decide) hs (fun b o h1 h2 => .inr ⟨h1, h2⟩) (by simpa using h1) fun i v x hv hxx => ?_)
    exact (hx i v x (by simpa using hv) hxx).ext (ext_nw hlt hb)

theorem ei24 : EI Tryd.prog 24 9 1 16 := EI.mk (z := .string ⟨#[]⟩) (by kernel_rfl) (by kernel_rfl) rfl (by decide)
theorem clone47_any (es : List D) (F : Nat → Nat → Prop) (w : World) (v : Value) (hlt : Lt F w) (hd : Den0 F w v (.list es)) (hs : ∀ e ∈ es, (dcells e).length = 1) (hL : es.length ≤ 1000000000) :
    Calls Tryd.prog 47 #[v] w (RetD F w (.list es)) := by
  obtain ⟨a, c, vs, rfl, hc, hvl, hsl, h1, hx⟩ := list_sl hlt hd hs
  have hs0 := hsl.alloc (Nat.le_refl _) (.cells #[] 9)
  have ho0 : OwnR (w.alloc (.cells #[] 9)) w.heap.size 9 1 (.slice (some ⟨w.heap.size, 0, none⟩) 0 0) 0 [] := .inl ⟨rfl, rfl, _, rfl⟩
  cases a with
  | none =>
    have hvs : vs = [] := by
      apply Classical.byContradiction
      intro hne
      obtain ⟨b, off, e, _⟩ := hsl hne
      cases e
    have he : es = [] := List.eq_nil_of_length_eq_zero (by rw [hvs] at hvl; simp at hvl; omega)
    subst he
    have qT : ∀ (w : World) (a : Option Addr) (n c : Nat), (binOp .eql 24 (.slice a n c) (.slice none 0 0)).run Tryd.prog w = .ok (.bool a.isNone) w := fun w a n c => Lib.run_eql_slice_nil w _ _ a n c 0 0 (show Tryd.prog.underlying 24 = some (.slice 9) by kernel_rfl)
    go_enter Tryd.func47, Tryd.ntmps47
    go_wp2_with fail
    go_ret
    exact RetD.of (Below.refl _ _) (.list none 0 0 1 [] [] rfl (Nat.le_refl _) (by decide) hs rfl (.inl rfl) (by simp))
  | some p =>
    have qT : ∀ (w : World) (a : Option Addr) (n c : Nat), (binOp .eql 24 (.slice a n c) (.slice none 0 0)).run Tryd.prog w = .ok (.bool a.isNone) w := fun w a n c => Lib.run_eql_slice_nil w _ _ a n c 0 0 (show Tryd.prog.underlying 24 = some (.slice 9) by kernel_rfl)
    go_enter Tryd.func47, Tryd.ntmps47
    go_wp2_with (at_builtin; refine app_slR _ rfl (.tmp 5) (.tmp 6) 24 rfl ei24 w.heap.size _ 0 [] rfl ho0 w.heap.size (some p) es.length c vs rfl hs0 hvl h1 (by simp only [maxLen]; omega) (by omega) (by simp) ?_; intro v w1 ho1 hg1 hb1)
    go_ret
    have hb : Below w.heap.size w w1 := ((Below.refl _ w).alloc (Nat.le_refl _) _).trans hb1
    refine RetD.of hb (own_den ho1 (by simp) (by decide) hs (fun b o h1 h2 => .inr ⟨h1, h2⟩) (by simpa using h1) fun i v x hv hxx => ?_)
    exact (hx i v x (by simpa using hv) hxx).ext (ext_nw hlt hb)
end Go.Av
