/- The evaluator, in one text: over any program; no conditions but those that each law names. -/
import Derived.Test.YtfhpckkldelkcaaDoorAvb
import Derived.Test.YtfhpckkldelkcaaDoorProg
import Derived.KernelRfl
import GoSem.PinnedTables
import Derived.Test.YtfhpckkldelkcaaDoorApp
import Derived.Test.YtfhpckkldelkcaaDoorOwn
import Derived.Test.YtfhpckkldelkcaaDoorChecked
import Derived.Test.YtfhpckkldelkcaaDoorStp
import Derived.Deep.QuietTactic
import Derived.BigQuiet
import Derived.Deep.RegionLaw
import Derived.Lib.SliceRun
import Derived.Lib.SlicesDelete
import Derived.Lib.Walk
import Derived.Laws.IdiomCopy
import Derived.Lib.ReflectliteSwap
set_option linter.unusedSimpArgs false
set_option linter.unusedVariables false
set_option linter.unusedSectionVars false
namespace Go.Av
open Go.Proofs
def firstN (c : Nat) : Nat := Go.Pinned.utf8FirstZ.getD c 0
def firstD : List D := (List.range 256).map fun c => .int .u8 (firstN c : Nat)
def accN : List Nat := [128, 191, 160, 191, 128, 159, 144, 191, 128, 143, 0, 0, 0, 0, 0, 0, 0, 0, 0, 0, 0, 0, 0, 0, 0, 0, 0, 0, 0, 0, 0, 0]
def accD : List D := accN.map fun n => .int .u8 (n : Nat)
def stS : List (List UInt8) := [[104, 111, 118, 101, 114], [97, 99, 116, 105, 118, 101], [102, 111, 99, 117, 115], [102, 111, 99, 117, 115, 45, 118, 105, 115, 105, 98, 108, 101], [118, 105, 115, 105, 116, 101, 100], [108, 105, 110, 107], [99, 104, 101, 99, 107, 101, 100], [100, 105, 115, 97, 98, 108, 101, 100], [101, 110, 97, 98, 108, 101, 100], [116, 97, 114, 103, 101, 116]]
def stD : List D := stS.map .str
def frzOps : List Oper → List Tmp
  | [] => []
  | o :: l => (match o.op with
    | .makeFunc _ _ c => c.toList.filterMap (fun | .tmp t => some t | _ => none)
    | _ => []) ++ frzOps l
class Ek where
  b : Bool
instance g17 [Ek] : Gs where
  gl := fun g => if g = 1 then .fix (.agg stD) 0 else if g = 2 then .fix (.agg firstD) 0 else if g = 3 then .fix (.agg accD) 0 else .bad
  rowAt := fun o => match o.op with | .makeSlice t (.tmp l) _ => t == 24 && l == 7 && o.dst == some 8 | _ => false
  frzAt := fun l => match l with
    | o :: _ => (match o.op with | .move (.tmp n) => if (n == 3 && o.dst == some 22) = true then [3] else frzOps l | _ => frzOps l)
    | [] => []
  noEat := fun t => t == 3
  gv := if Ek.b = true then [(0, .iface 102 (.agg #[.pointer (some ⟨4, 34, none⟩)]))] else []
theorem mx17 : Tryd.prog.follows .mixedOrders = true := by kernel_rfl
theorem nm17 : (Tryd.prog.funcs.all fun fn => !(fn.name == "runtime.NumGoroutine")) = true := by kernel_rfl
theorem fineS : Fine Tryd.prog := by
  refine ⟨mx17, fun f fn hf => ?_⟩
  have h := Array.all_eq_true_iff_forall_mem.1 nm17 fn (Array.mem_of_getElem? hf)
  simpa using h
end Go.Av
set_option maxRecDepth 100000
namespace Go.Av
open Go.Proofs Go.RowKit Go.Proofs.YtfhpckkldelkcaaDoor
def nw (F : Nat → Nat → Prop) (w w' : World) : Nat → Nat → Prop := fun b o => F b o ∨ (w.heap.size ≤ b ∧ b < w'.heap.size)
theorem ext_nw {F : Nat → Nat → Prop} {w w' : World} (hlt : Lt F w) (hb : Below w.heap.size w w') : Ext (fun _ => False) F w (nw F w w') w' := by
  refine ⟨hb.os, hb.tape, hb.output, hb.size, fun b h _ => hb.block b h, fun b o h => .inl h, fun b o h => ?_, fun b es c hf hm => (hb.block b (hlt b 0 hf)).trans hm⟩
  unfold World.cell?
  rw [hb.block b (hlt b o h)]
theorem lt_nw {F : Nat → Nat → Prop} {w w' : World} (hlt : Lt F w) (hb : Below w.heap.size w w') : Lt (nw F w w') w' := by
  rintro b o (h | h)
  · exact Nat.lt_of_lt_of_le (hlt b o h) hb.size
  · exact h.2
theorem nw_step {F : Nat → Nat → Prop} {w w1 w2 : World} (h1 : w.heap.size ≤ w1.heap.size) (h2 : w1.heap.size ≤ w2.heap.size) : ∀ b o, nw (nw F w w1) w1 w2 b o → nw F w w2 b o := by
  rintro b o ((h | h) | h)
  · exact .inl h
  · exact .inr ⟨h.1, Nat.lt_of_lt_of_le h.2 h2⟩
  · exact .inr ⟨Nat.le_trans h1 h.1, h.2⟩
theorem Den0.grow {F F' : Nat → Nat → Prop} {w : World} {v : Value} {d : D} (h : Den0 F w v d) (hF : ∀ b o, F b o → F' b o) : Den0 F' w v d :=
  h.ext (S := fun _ => False) ⟨rfl, rfl, rfl, Nat.le_refl _, fun _ _ _ => rfl, hF, fun _ _ _ => rfl, fun _ _ _ _ hm => hm⟩
def RetD (F : Nat → Nat → Prop) (w : World) (d : D) (e : Ending) (w' : World) : Prop := ∃ v, e = .returned v ∧ Below w.heap.size w w' ∧ ∀ c ν, Den c ν (nw F w w') w' v d
theorem RetD.ret [Gs] {P : Program} {μ : Mu} {F : Nat → Nat → Prop} {w w' : World} {d : D} {e : Ending} (hlt : Lt F w) (h : RetD F w d e w') : Ret P 0 μ F w d [] [] e w' := by
  obtain ⟨v, rfl, hb, hv⟩ := h
  refine ⟨v, nw F w w', fun _ _ => none, rfl, (ext_nw hlt hb).weaken (fun _ _ h => h.elim), lt_nw hlt hb, fun b o h => h.imp id fun h => .inl h.1, .inl ⟨rfl, hv, rooms_nil⟩, fun j i g h => ?_, fun j i j' i' g h => ?_, fun i bx hi => absurd hi (Nat.not_lt_zero i)⟩
  · cases h
  · cases h
theorem RetD.of {F : Nat → Nat → Prop} {w w' : World} {v : Value} {d : D} (hb : Below w.heap.size w w') (hv : Den0 (nw F w w') w' v d) : RetD F w d (.returned v) w' := ⟨v, rfl, hb, fun _ _ => .pure _ _ hv⟩
theorem Ret.retD [Gs] {P : Program} {μ : Mu} {F : Nat → Nat → Prop} {w w' : World} {d : D} {r : List Room} {e : Ending} (h : Ret P 0 μ F w d r [] e w') : RetD F w d e w' := by
  obtain ⟨v, F', nc, rfl, hE, hlt, hn, hv, _⟩ := h
  refine ⟨v, rfl, ⟨hE.os, hE.tape, hE.output, hE.size, fun b hb => hE.block b hb (S_zero _ b)⟩, ?_⟩
  rcases hv with ⟨_, hv, _⟩ | ⟨h1, _⟩
  · exact fun c ν => (hv c ν).ext (S := fun _ => False) ⟨rfl, rfl, rfl, Nat.le_refl _, fun _ _ _ => rfl, fun b o h => (hn b o h).imp id fun h' => ⟨h'.resolve_right (C_zero _ b), hlt b o h⟩, fun _ _ _ => rfl, fun _ _ _ _ hm => hm⟩
  · simp at h1
theorem list_sl {F : Nat → Nat → Prop} {w : World} {v : Value} {es : List D} {sz : Nat} (hlt : Lt F w) (h : Den0 F w v (.list es)) (hs : ∀ e ∈ es, (dcells e).length = sz) :
    ∃ a c vs, v = .slice a es.length c ∧ es.length ≤ c ∧ vs.length = es.length * sz ∧ Sl w w.heap.size a vs ∧ (∀ u ∈ vs, u.oneCell' = true) ∧ ∀ (i : Nat) (v : Value) (x : D), vs[i]? = some v → (flat es)[i]? = some x → Den0 F w v x := by
  cases h with
  | list a n c sz' es vs h1 h2 h3 h4 h5 h6 h7 =>
    subst h1
    have hl : vs.length = es.length * sz := by
      rcases es with _ | ⟨e0, r0⟩
      · simpa using h5
      · rw [h5, ← h4 e0 (by simp), ← hs e0 (by simp)]
    refine ⟨a, c, vs, rfl, h2, hl, ?_, ?_, h7⟩
    · intro hne
      rcases h6 with h6 | ⟨b, off, ha, hc⟩
      · exact absurd h6 hne
      · refine ⟨b, off, ha, ?_, fun i hi => (hc i _ (List.getElem?_eq_getElem hi)).2.1⟩
        have := (hc 0 _ (List.getElem?_eq_getElem (List.length_pos_iff.2 hne))).1
        exact hlt _ _ this
    · intro u hu
      rcases h6 with h6 | ⟨b, off, ha, hc⟩
      · rw [h6] at hu; cases hu
      · obtain ⟨i, hi⟩ := List.mem_iff_getElem?.1 hu
        exact (hc i _ hi).2.2
theorem own_den {F : Nat → Nat → Prop} {w : World} {base n sz : Nat} {e : TypeId} {v : Value} {vs : List Value} {es : List D} (hown : OwnR w base e sz v n vs) (hn : n = es.length) (hsz : 0 < sz) (hs : ∀ e ∈ es, (dcells e).length = sz)
    (hF : ∀ b o, base ≤ b → b < w.heap.size → F b o) (h1 : ∀ u ∈ vs, u.oneCell' = true) (hd : ∀ (i : Nat) (v : Value) (x : D), vs[i]? = some v → (flat es)[i]? = some x → Den0 F w v x) : Den0 F w v (.list es) := by
  rcases hown with ⟨h0, hv0, A, rfl⟩ | ⟨hl, ⟨rfl, h0⟩ | ⟨g, cap, cur, rfl, hg, hh, hc, hm, hcs, ht⟩⟩
  · subst hv0
    exact .list A 0 0 sz es [] (by omega) (Nat.le_refl _) hsz hs (by simp) (.inl rfl) hd
  · exact .list none 0 0 sz es vs (by omega) (Nat.le_refl _) hsz hs (by rw [hl, h0]) (.inl (List.eq_nil_of_length_eq_zero (by rw [hl, h0]; simp))) hd
  · refine .list _ n cap sz es vs hn.symm hc hsz hs hl (.inr ⟨g, 0, rfl, fun i v hv => ?_⟩) hd
    have hgl : g < w.heap.size := (Array.getElem?_eq_some_iff.1 hh).1
    refine ⟨hF _ _ hg hgl, ?_, h1 v (List.mem_of_getElem? hv)⟩
    rw [← ht, List.getElem?_take] at hv
    split at hv
    · unfold World.cell?
      simp only [hh, Nat.zero_add]
      simpa using hv
    · cases hv
theorem one_den {c : Nat → Nat} {ν : Nat → Nat → Nat} {F : Nat → Nat → Prop} {w : World} {vals : List Value} {d : D} (hl : vals.length = [d].length) (h : ∀ (i : Nat) (v : Value) (x : D), vals[i]? = some v → [d][i]? = some x → Den c ν F w v x) : ∃ v, vals = [v] ∧ Den c ν F w v d := by
  match vals, hl with
  | [v], _ => exact ⟨v, rfl, h 0 v d rfl rfl⟩

def noPtr : D → Bool
  | .int _ _ | .str _ | .bool _ | .con _ => true
  | _ => false
theorem noPtr_den {F F' : Nat → Nat → Prop} {w w' : World} {v : Value} {x : D} (hx : noPtr x = true) (h : Den0 F w v x) : Den0 F' w' v x := by
  cases h with
  | int k n => exact .int k n
  | str l => exact .str l
  | bool b => exact .bool b
  | con v h => exact .con v h
  | list => cases hx
  | agg => cases hx
  | fix => cases hx
  | iface => cases hx
  | func => cases hx
  | imap => cases hx
def Keep (F G : Nat → Nat → Prop) (w : World) (es : List D) : Prop := ∀ (W : World) (v : Value) (x : D), x ∈ flat es → Below w.heap.size w W → Den0 F w v x → Den0 (nw G w W) W v x
theorem Keep.same {F : Nat → Nat → Prop} {w : World} {es : List D} (hlt : Lt F w) : Keep F F w es := fun W v x _ hb h => h.ext (ext_nw hlt hb)
theorem Keep.leaf {F G : Nat → Nat → Prop} {w : World} {es : List D} (h : ∀ x ∈ flat es, noPtr x = true) : Keep F G w es := fun W v x hx _ hd => noPtr_den (h x hx) hd
theorem ei23 : EI Tryd.prog 25 54 3 48 := EI.mk (z := .agg #[.string ⟨#[]⟩, .string ⟨#[]⟩, .string ⟨#[]⟩]) (by kernel_rfl) (by kernel_rfl) rfl (by decide)
theorem clone46_gen (es : List D) (F G : Nat → Nat → Prop) (w : World) (v : Value) (hlt : Lt F w) (hd : Den0 F w v (.list es)) (hk : Keep F G w es) (hs : ∀ e ∈ es, (dcells e).length = 3) (hL : es.length ≤ 1000000000) :
    Calls Tryd.prog 46 #[v] w (RetD G w (.list es)) := by
  obtain ⟨a, c, vs, rfl, hc, hvl, hsl, h1, hx⟩ := list_sl hlt hd hs
  have hs0 := hsl.alloc (Nat.le_refl _) (.cells #[] 54)
  have ho0 : OwnR (w.alloc (.cells #[] 54)) w.heap.size 54 3 (.slice (some ⟨w.heap.size, 0, none⟩) 0 0) 0 [] := .inl ⟨rfl, rfl, _, rfl⟩
  cases a with
  | none =>
    have hvs : vs = [] := by
      apply Classical.byContradiction
      intro hne
      obtain ⟨b, off, e, _⟩ := hsl hne
      cases e
    have he : es = [] := List.eq_nil_of_length_eq_zero (by rw [hvs] at hvl; simp at hvl; omega)
    subst he
    have qT : ∀ (w : World) (a : Option Addr) (n c : Nat), (binOp .eql 25 (.slice a n c) (.slice none 0 0)).run Tryd.prog w = .ok (.bool a.isNone) w := fun w a n c => Lib.run_eql_slice_nil w _ _ a n c 0 0 (show Tryd.prog.underlying 25 = some (.slice 54) by kernel_rfl)
    go_enter Tryd.func46, Tryd.ntmps46
    go_wp2_with fail
    go_ret
    exact RetD.of (Below.refl _ _) (.list none 0 0 3 [] [] rfl (Nat.le_refl _) (by decide) hs rfl (.inl rfl) (by simp))
  | some p =>
    have qT : ∀ (w : World) (a : Option Addr) (n c : Nat), (binOp .eql 25 (.slice a n c) (.slice none 0 0)).run Tryd.prog w = .ok (.bool a.isNone) w := fun w a n c => Lib.run_eql_slice_nil w _ _ a n c 0 0 (show Tryd.prog.underlying 25 = some (.slice 54) by kernel_rfl)
    go_enter Tryd.func46, Tryd.ntmps46
    go_wp2_with (at_builtin; refine app_slR _ rfl (.tmp 5) (.tmp 6) 25 rfl ei23 w.heap.size _ 0 [] rfl ho0 w.heap.size (some p) es.length c vs rfl hs0 hvl h1 (by simp only [maxLen]; omega) (by omega) (by simp) ?_; intro v w1 ho1 hg1 hb1)
    go_ret
    have hb : Below w.heap.size w w1 := ((Below.refl _ w).alloc (Nat.le_refl _) _).trans hb1
    refine RetD.of hb (own_den ho1 (by simp) (by decide) hs (fun b o h1 h2 => .inr ⟨h1, h2⟩) (by simpa using h1) fun i v x hv hxx => ?_)
    exact hk _ _ _ (List.mem_of_getElem? hxx) hb (hx i v x (by simpa using hv) hxx)

theorem clone46_any (es : List D) (F : Nat → Nat → Prop) (w : World) (v : Value) (hlt : Lt F w) (hd : Den0 F w v (.list es)) (hs : ∀ e ∈ es, (dcells e).length = 3) (hL : es.length ≤ 1000000000) :
    Calls Tryd.prog 46 #[v] w (RetD F w (.list es)) :=
  clone46_gen es F F w v hlt hd (Keep.same hlt) hs hL

theorem ei24 : EI Tryd.prog 26 9 1 16 := EI.mk (z := .string ⟨#[]⟩) (by kernel_rfl) (by kernel_rfl) rfl (by decide)
theorem clone47_gen (es : List D) (F G : Nat → Nat → Prop) (w : World) (v : Value) (hlt : Lt F w) (hd : Den0 F w v (.list es)) (hk : Keep F G w es) (hs : ∀ e ∈ es, (dcells e).length = 1) (hL : es.length ≤ 1000000000) :
    Calls Tryd.prog 47 #[v] w (RetD G w (.list es)) := by
  obtain ⟨a, c, vs, rfl, hc, hvl, hsl, h1, hx⟩ := list_sl hlt hd hs
  have hs0 := hsl.alloc (Nat.le_refl _) (.cells #[] 9)
  have ho0 : OwnR (w.alloc (.cells #[] 9)) w.heap.size 9 1 (.slice (some ⟨w.heap.size, 0, none⟩) 0 0) 0 [] := .inl ⟨rfl, rfl, _, rfl⟩
  cases a with
  | none =>
    have hvs : vs = [] := by
      apply Classical.byContradiction
      intro hne
      obtain ⟨b, off, e, _⟩ := hsl hne
      cases e
    have he : es = [] := List.eq_nil_of_length_eq_zero (by rw [hvs] at hvl; simp at hvl; omega)
    subst he
    have qT : ∀ (w : World) (a : Option Addr) (n c : Nat), (binOp .eql 26 (.slice a n c) (.slice none 0 0)).run Tryd.prog w = .ok (.bool a.isNone) w := fun w a n c => Lib.run_eql_slice_nil w _ _ a n c 0 0 (show Tryd.prog.underlying 26 = some (.slice 9) by kernel_rfl)
    go_enter Tryd.func47, Tryd.ntmps47
    go_wp2_with fail
    go_ret
    exact RetD.of (Below.refl _ _) (.list none 0 0 1 [] [] rfl (Nat.le_refl _) (by decide) hs rfl (.inl rfl) (by simp))
  | some p =>
    have qT : ∀ (w : World) (a : Option Addr) (n c : Nat), (binOp .eql 26 (.slice a n c) (.slice none 0 0)).run Tryd.prog w = .ok (.bool a.isNone) w := fun w a n c => Lib.run_eql_slice_nil w _ _ a n c 0 0 (show Tryd.prog.underlying 26 = some (.slice 9) by kernel_rfl)
    go_enter Tryd.func47, Tryd.ntmps47
    go_wp2_with (at_builtin; refine app_slR _ rfl (.tmp 5) (.tmp 6) 26 rfl ei24 w.heap.size _ 0 [] rfl ho0 w.heap.size (some p) es.length c vs rfl hs0 hvl h1 (by simp only [maxLen]; omega) (by omega) (by simp) ?_; intro v w1 ho1 hg1 hb1)
    go_ret
    have hb : Below w.heap.size w w1 := ((Below.refl _ w).alloc (Nat.le_refl _) _).trans hb1
    refine RetD.of hb (own_den ho1 (by simp) (by decide) hs (fun b o h1 h2 => .inr ⟨h1, h2⟩) (by simpa using h1) fun i v x hv hxx => ?_)
    exact hk _ _ _ (List.mem_of_getElem? hxx) hb (hx i v x (by simpa using hv) hxx)
theorem clone47_any (es : List D) (F : Nat → Nat → Prop) (w : World) (v : Value) (hlt : Lt F w) (hd : Den0 F w v (.list es)) (hs : ∀ e ∈ es, (dcells e).length = 1) (hL : es.length ≤ 1000000000) :
    Calls Tryd.prog 47 #[v] w (RetD F w (.list es)) :=
  clone47_gen es F F w v hlt hd (Keep.same hlt) hs hL

end Go.Av
namespace Go.Av
variable [Ek]
open Go.Proofs Go.RowKit Go.Proofs.YtfhpckkldelkcaaDoor
theorem den_ge {F : Nat → Nat → Prop} {w W : World} {v : Value} {d : D} (h : Den0 F w v d) (hlt : Lt F w) (hb : Ge w W) : Den0 F W v d :=
  h.ext (S := fun _ => False) ⟨hb.os, hb.tape, hb.output, hb.size, fun b h _ => hb.block b h, fun b o h => h, fun b o h => by unfold World.cell?; rw [hb.block b (hlt b o h)], fun b es c hf hm => (hb.block b (hlt b 0 hf)).trans hm⟩
theorem lt_ge {F : Nat → Nat → Prop} {w W : World} (hlt : Lt F w) (hb : Ge w W) : Lt F W := fun b o h => Nat.lt_of_lt_of_le (hlt b o h) hb.size
def nx (F : Nat → Nat → Prop) (m : Nat) (w' : World) : Nat → Nat → Prop := fun b o => F b o ∨ (m ≤ b ∧ b < w'.heap.size)
theorem nx_keep {F : Nat → Nat → Prop} {w W W2 : World} {m m' A : Nat} {v : Value} {d : D} (h : Den0 (nx F m W) W v d) (hlt : Lt F w) (hW : w.heap.size ≤ W.heap.size) (hA : w.heap.size ≤ A) (hA2 : A < m) (hm : m' ≤ m) (hg : W.grownBy W2 (some A)) : Den0 (nx F m' W2) W2 v d := by
  have hne : ∀ b o, nx F m W b o → b < W.heap.size ∧ b ≠ A := by
    rintro b o (h | h)
    · have := hlt b o h
      exact ⟨by omega, by omega⟩
    · exact ⟨h.2, by omega⟩
  refine h.ext (S := fun b => b = A) ⟨hg.os, hg.tape, hg.output, hg.size, fun b h hn => hg.block b h (fun e => hn (by injection e)), fun b o h => ?_, fun b o h => ?_, fun b es c hf hm => (hg.block b (hne b 0 hf).1 (fun e => (hne b 0 hf).2 (by injection e))).trans hm⟩
  · exact h.imp id fun h => ⟨by omega, Nat.lt_of_lt_of_le h.2 hg.size⟩
  · unfold World.cell?
    rw [hg.block b (hne b o h).1 (fun e => (hne b o h).2 (by injection e))]
theorem nx_of_nw {F : Nat → Nat → Prop} {W W' : World} {m : Nat} {v : Value} {d : D} (h : Den0 (nw F W W') W' v d) (hm : m ≤ W.heap.size) : Den0 (nx F m W') W' v d :=
  h.grow fun b o h => h.imp id fun h => ⟨Nat.le_trans hm h.1, h.2⟩
theorem grown_refl (w : World) (r : Option Nat) : w.grownBy w r := ⟨rfl, rfl, rfl, Nat.le_refl _, fun _ _ _ => rfl⟩
theorem grown_ge {a w w' : World} {r : Option Nat} (h : a.grownBy w r) (k : Ge w w') : a.grownBy w' r :=
  ⟨k.os.trans h.os, k.tape.trans h.tape, k.output.trans h.output, Nat.le_trans h.size k.size, fun b hb hne => (k.block b (Nat.lt_of_lt_of_le hb h.size)).trans (h.block b hb hne)⟩
theorem ge_put {w w' : World} (h : Ge w w') {p : Addr} (hp : w.heap.size ≤ p.block) (v : Value) : Ge w (w'.setCell p v) := Below.setCell h hp v
theorem below_of_grown_row {w W W2 : World} {B : Nat} (h : Ge w W) (hg : W.grownBy W2 (some B)) (hB : w.heap.size ≤ B) : Ge w W2 :=
  ⟨hg.os.trans h.os, hg.tape.trans h.tape, hg.output.trans h.output, Nat.le_trans h.size hg.size, fun b hb => (hg.block b (Nat.lt_of_lt_of_le hb h.size) (fun e => by injection e with e; omega)).trans (h.block b hb)⟩
theorem clone46_ge {es : List D} {F G : Nat → Nat → Prop} {w W : World} {v : Value} (hlt : Lt F w) (hd : Den0 F w v (.list es)) (hk : ∀ W, Ge w W → Keep F G W es) (hs : ∀ e ∈ es, (dcells e).length = 3) (hL : es.length ≤ 1000000000) (hG : Ge w W) :
    Calls Tryd.prog 46 #[v] W fun e W' => ∃ x n c, e = .returned (.slice x n c) ∧ Ge W W' ∧ Den0 (nw G W W') W' (.slice x n c) (.list es) := by
  refine (clone46_gen es F G W v (lt_ge hlt hG) (den_ge hd hlt hG) (hk W hG) hs hL).mono ?_
  rintro e W' ⟨v', rfl, hb, hv⟩
  have h := (hv (fun _ => 0) fun _ _ => 0).list_
  cases h with
  | list a n c sz es vs h1 h2 h3 h4 h5 h6 h7 => exact ⟨a, n, c, rfl, hb, .list a n c sz es vs h1 h2 h3 h4 h5 h6 h7⟩
theorem clone47_ge {es : List D} {F G : Nat → Nat → Prop} {w W : World} {v : Value} (hlt : Lt F w) (hd : Den0 F w v (.list es)) (hk : ∀ W, Ge w W → Keep F G W es) (hs : ∀ e ∈ es, (dcells e).length = 1) (hL : es.length ≤ 1000000000) (hG : Ge w W) :
    Calls Tryd.prog 47 #[v] W fun e W' => ∃ x n c, e = .returned (.slice x n c) ∧ Ge W W' ∧ Den0 (nw G W W') W' (.slice x n c) (.list es) := by
  refine (clone47_gen es F G W v (lt_ge hlt hG) (den_ge hd hlt hG) (hk W hG) hs hL).mono ?_
  rintro e W' ⟨v', rfl, hb, hv⟩
  have h := (hv (fun _ => 0) fun _ _ => 0).list_
  cases h with
  | list a n c sz es vs h1 h2 h3 h4 h5 h6 h7 => exact ⟨a, n, c, rfl, hb, .list a n c sz es vs h1 h2 h3 h4 h5 h6 h7⟩
theorem copied_gen (p k : Int) (sp nm tx : ByteArray) (v4 v5 : Value) (la ls : List D) (F G : Nat → Nat → Prop) (w : World) (hlt : Lt F w) (hltG : Lt G w) (hk4 : ∀ W, Ge w W → Keep F G W la) (hk5 : ∀ W, Ge w W → Keep F G W ls) (hd4 : Den0 F w v4 (.list la)) (hd5 : Den0 F w v5 (.list ls))
    (hs4 : ∀ e ∈ la, (dcells e).length = 3) (hs5 : ∀ e ∈ ls, (dcells e).length = 1) (hL4 : la.length ≤ 1000000000) (hL5 : ls.length ≤ 1000000000) (o4 : v4.oneCell' = true) (o5 : v5.oneCell' = true) :
    Calls Tryd.prog 29 #[.agg #[.int .i64 p, .int .i64 k, .string sp, .string nm, v4, v5, .string tx]] w fun e w' => ∃ u4 u5, e = .returned (.agg #[.int .i64 p, .int .i64 k, .string sp, .string nm, u4, u5, .string tx]) ∧ Ge w w' ∧
      Den0 (nw G w w') w' u4 (.list la) ∧ Den0 (nw G w w') w' u5 (.list ls) ∧ u4.oneCell' = true ∧ u5.oneCell' = true := by
  have hW0 : ∀ o1 o2, Ge w ((w.alloc o1).alloc o2) := fun o1 o2 => ((Below.refl _ w).alloc (Nat.le_refl _) o1).alloc (by simp) o2
  have c46 := fun v W => clone46_ge (es := la) (F := F) (G := G) (w := w) (v := v) (W := W)
  have c47 := fun v W => clone47_ge (es := ls) (F := F) (G := G) (w := w) (v := v) (W := W)
  go_enter Tryd.func29, Tryd.ntmps29
  go_wp2_with fail
  have G0 := hW0 (.cells #[.int .i64 p, .int .i64 k, .string sp, .string nm, v4, v5, .string tx] 28) (.cells #[.int .i64 0, .int .i64 0, .string ⟨#[]⟩, .string ⟨#[]⟩, .slice none 0 0, .slice none 0 0, .string ⟨#[]⟩] 28)
  have B0 : Bk ((w.alloc (.cells #[.int .i64 p, .int .i64 k, .string sp, .string nm, v4, v5, .string tx] 28)).alloc (.cells #[.int .i64 0, .int .i64 0, .string ⟨#[]⟩, .string ⟨#[]⟩, .slice none 0 0, .slice none 0 0, .string ⟨#[]⟩] 28)) w.heap.size 28 #[.int .i64 p, .int .i64 k, .string sp, .string nm, v4, v5, .string tx] := (Bk.new _ _ _).alloc _
  have Z0 : Bk ((w.alloc (.cells #[.int .i64 p, .int .i64 k, .string sp, .string nm, v4, v5, .string tx] 28)).alloc (.cells #[.int .i64 0, .int .i64 0, .string ⟨#[]⟩, .string ⟨#[]⟩, .slice none 0 0, .slice none 0 0, .string ⟨#[]⟩] 28)) (w.heap.size + 1) 28 #[.int .i64 0, .int .i64 0, .string ⟨#[]⟩, .string ⟨#[]⟩, .slice none 0 0, .slice none 0 0, .string ⟨#[]⟩] := by
    have := Bk.new (w.alloc (.cells #[.int .i64 p, .int .i64 k, .string sp, .string nm, v4, v5, .string tx] 28)) 28 #[.int .i64 0, .int .i64 0, .string ⟨#[]⟩, .string ⟨#[]⟩, .slice none 0 0, .slice none 0 0, .string ⟨#[]⟩]
    simpa using this
  go_region_law (first
    | (go_simp; go_at_call 46; refine (c46 _ _ hlt hd4 hk4 hs4 hL4 (by first | exact G0 | exact G0.drew)).mono ?_; rintro e W4 ⟨x4, n4, e4, rfl, hb4, hv4⟩; have G4 := Ge.tr (by first | exact G0 | exact G0.drew) hb4; have B4 := Bk.below (by first | exact B0 | exact B0.drew) hb4 (by first | exact B0.lt | exact B0.drew.lt); have q4 := B4.cell 5; have q7 := B4.cell 4; have q5 := B4.free 4; have q6 := B4.free 5; have Z4 := Bk.below (by first | exact Z0 | exact Z0.drew) hb4 (by first | exact Z0.lt | exact Z0.drew.lt); simp only [List.getElem?_toArray, List.getElem?_cons_succ, List.getElem?_cons_zero] at q4 q7)
    | (go_simp; go_at_call 47; refine (c47 _ _ hlt hd5 hk5 hs5 hL5 (by first | exact G4 | exact G4.drew | exact ge_put G4 (by simp) _)).mono ?_; rintro e W5 ⟨x5, n5, e5, rfl, hb5, hv5⟩; have B5 := Bk.below (by first | exact B4 | exact B4.put _ _) hb5 (by first | (simp; exact B4.lt) | exact B4.lt); have s6 := B5.cell 4; have s7 := B5.cell 5; simp at s6 s7; have s4 := B5.free 4; have s5 := B5.free 5; have Z5 := Bk.below (by first | exact Z4 | exact Z4.other (by simp) _) hb5 (by first | exact Z4.lt | (simp; exact Z4.lt))))
  all_goals (
    have BF := (B5.put 4 (.slice x4 n4 e4)).put 5 (.slice x5 n5 e5)
    have ZF := (Z5.other (p := ⟨w.heap.size, 4, none⟩) (by simp) (.slice x4 n4 e4)).other (p := ⟨w.heap.size, 5, none⟩) (by simp) (.slice x5 n5 e5)
    have GA := grown_put (grown_put (grown_refl W5 (some w.heap.size)) (p := ⟨w.heap.size, 4, none⟩) rfl (.slice x4 n4 e4)) (p := ⟨w.heap.size, 5, none⟩) rfl (.slice x5 n5 e5)
    have hsz : w.heap.size < W4.heap.size := B4.lt
    have G5 : Ge w W5 := G4.tr hb5
    have z4 : w.heap.size + 2 ≤ W4.heap.size := Nat.le_trans (by first | (show _ ≤ ((w.heap.push _).push _).size; simp; done) | simp) hb4.size
    have v5F := nx_keep (A := w.heap.size) (nx_of_nw (m := w.heap.size + 2) hv5 (by first | exact z4 | (simp; exact z4))) hltG G5.size (Nat.le_refl _) (by omega) (Nat.le_refl _) GA
    have v4F := nx_keep (A := w.heap.size) (nx_of_nw (m := w.heap.size + 2) hv4 (by simp)) hltG G4.size (Nat.le_refl _) (by omega) (Nat.le_refl _) (grown_put (grown_put (grown_ge (by first | exact grown_refl W4 _ | exact grown_put (grown_refl W4 (some w.heap.size)) (p := ⟨w.heap.size, 4, none⟩) rfl (.slice x4 n4 e4)) hb5) (p := ⟨w.heap.size, 4, none⟩) rfl (.slice x4 n4 e4)) (p := ⟨w.heap.size, 5, none⟩) rfl (.slice x5 n5 e5))
    have GF : Ge w ((W5.setCell ⟨w.heap.size, 4, none⟩ (.slice x4 n4 e4)).setCell ⟨w.heap.size, 5, none⟩ (.slice x5 n5 e5)) := ge_put (ge_put G5 (by simp) _) (by simp) _
    clear GA B5 Z5 z4 s4 s5 s6 s7 q4 q5 q6 q7 B4 Z4 hb5 hv5 hv4 hb4 G5 G4
    generalize ((W5.setCell ⟨w.heap.size, 4, none⟩ (.slice x4 n4 e4)).setCell ⟨w.heap.size, 5, none⟩ (.slice x5 n5 e5)) = W6 at *
    have b0 := BF.cell 0; have b1 := BF.cell 1; have b2 := BF.cell 2; have b3 := BF.cell 3; have b4 := BF.cell 4; have b5 := BF.cell 5; have b6 := BF.cell 6
    have z0 := ZF.cell 0; have z1 := ZF.cell 1; have z2 := ZF.cell 2; have z3 := ZF.cell 3; have z4 := ZF.cell 4; have z5 := ZF.cell 5; have z6 := ZF.cell 6
    have f0 := ZF.free 0; have f1 := ZF.free 1; have f2 := ZF.free 2; have f3 := ZF.free 3; have f4 := ZF.free 4; have f5 := ZF.free 5; have f6 := ZF.free 6
    simp at b0 b1 b2 b3 b4 b5 b6 z0 z1 z2 z3 z4 z5 z6)
  all_goals go_wp2_with fail
  all_goals (
    have BZ := ((((((ZF.put 0 (.int .i64 p)).put 1 (.int .i64 k)).put 2 (.string sp)).put 3 (.string nm)).put 4 (.slice x4 n4 e4)).put 5 (.slice x5 n5 e5)).put 6 (.string tx)
    have GZ := grown_put (grown_put (grown_put (grown_put (grown_put (grown_put (grown_put (grown_refl W6 (some (w.heap.size + 1))) (p := ⟨w.heap.size + 1, 0, none⟩) rfl (.int .i64 p)) (p := ⟨w.heap.size + 1, 1, none⟩) rfl (.int .i64 k)) (p := ⟨w.heap.size + 1, 2, none⟩) rfl (.string sp)) (p := ⟨w.heap.size + 1, 3, none⟩) rfl (.string nm)) (p := ⟨w.heap.size + 1, 4, none⟩) rfl (.slice x4 n4 e4)) (p := ⟨w.heap.size + 1, 5, none⟩) rfl (.slice x5 n5 e5)) (p := ⟨w.heap.size + 1, 6, none⟩) rfl (.string tx)
    have v5Z := nx_keep (m' := w.heap.size) v5F hltG GF.size (by omega) (by omega) (by omega) GZ
    have v4Z := nx_keep (m' := w.heap.size) v4F hltG GF.size (by omega) (by omega) (by omega) GZ
    have GY : Ge w (((((((W6.setCell ⟨w.heap.size + 1, 0, none⟩ (.int .i64 p)).setCell ⟨w.heap.size + 1, 1, none⟩ (.int .i64 k)).setCell ⟨w.heap.size + 1, 2, none⟩ (.string sp)).setCell ⟨w.heap.size + 1, 3, none⟩ (.string nm)).setCell ⟨w.heap.size + 1, 4, none⟩ (.slice x4 n4 e4)).setCell ⟨w.heap.size + 1, 5, none⟩ (.slice x5 n5 e5)).setCell ⟨w.heap.size + 1, 6, none⟩ (.string tx)) := below_of_grown_row GF GZ (by omega)
    clear GZ GF b0 b1 b2 b3 b4 b5 b6 z0 z1 z2 z3 z4 z5 z6 f0 f1 f2 f3 f4 f5 f6 BF ZF
    generalize (((((((W6.setCell ⟨w.heap.size + 1, 0, none⟩ (.int .i64 p)).setCell ⟨w.heap.size + 1, 1, none⟩ (.int .i64 k)).setCell ⟨w.heap.size + 1, 2, none⟩ (.string sp)).setCell ⟨w.heap.size + 1, 3, none⟩ (.string nm)).setCell ⟨w.heap.size + 1, 4, none⟩ (.slice x4 n4 e4)).setCell ⟨w.heap.size + 1, 5, none⟩ (.slice x5 n5 e5)).setCell ⟨w.heap.size + 1, 6, none⟩ (.string tx)) = W7 at *
    have z0 := BZ.cell 0; have z1 := BZ.cell 1; have z2 := BZ.cell 2; have z3 := BZ.cell 3; have z4 := BZ.cell 4; have z5 := BZ.cell 5; have z6 := BZ.cell 6
    simp at z0 z1 z2 z3 z4 z5 z6
    refine ⟨rfl, .agg #[.int .i64 p, .int .i64 k, .string sp, .string nm, .slice x4 n4 e4, .slice x5 n5 e5, .string tx], ?_, _, _, rfl, GY, v4Z, v5Z, rfl, rfl⟩
    simp [results, go_sem, z0, z1, z2, z3, z4, z5, z6, Tryd.f29])
theorem copied_any (p k : Int) (sp nm tx : ByteArray) (v4 v5 : Value) (la ls : List D) (F : Nat → Nat → Prop) (w : World) (hlt : Lt F w) (hd4 : Den0 F w v4 (.list la)) (hd5 : Den0 F w v5 (.list ls))
    (hs4 : ∀ e ∈ la, (dcells e).length = 3) (hs5 : ∀ e ∈ ls, (dcells e).length = 1) (hL4 : la.length ≤ 1000000000) (hL5 : ls.length ≤ 1000000000) (o4 : v4.oneCell' = true) (o5 : v5.oneCell' = true) :
    Calls Tryd.prog 29 #[.agg #[.int .i64 p, .int .i64 k, .string sp, .string nm, v4, v5, .string tx]] w fun e w' => ∃ u4 u5, e = .returned (.agg #[.int .i64 p, .int .i64 k, .string sp, .string nm, u4, u5, .string tx]) ∧ Ge w w' ∧
      Den0 (nw F w w') w' u4 (.list la) ∧ Den0 (nw F w w') w' u5 (.list ls) ∧ u4.oneCell' = true ∧ u5.oneCell' = true :=
  copied_gen p k sp nm tx v4 v5 la ls F F w hlt hlt (fun W hG => Keep.same (lt_ge hlt hG)) (fun W hG => Keep.same (lt_ge hlt hG)) hd4 hd5 hs4 hs5 hL4 hL5 o4 o5
end Go.Av
namespace Go.Av
open Go.Proofs Go.RowKit Go.Proofs.YtfhpckkldelkcaaDoor
variable [Ek]
theorem cloneA_own (es : List D) (F G : Nat → Nat → Prop) (w : World) (v : Value) (hlt : Lt F w) (hd : Den0 F w v (.list es)) (hk : Keep F G w es) (hs : ∀ e ∈ es, (dcells e).length = 3) (hL : es.length ≤ 1000000000) :
    Calls Tryd.prog 46 #[v] w fun e w' => ∃ u vs, e = .returned u ∧ Ge w w' ∧ OwnR w' w.heap.size 54 3 u es.length vs ∧ (∀ x ∈ vs, x.oneCell' = true) ∧ ∀ (i : Nat) (v : Value) (x : D), vs[i]? = some v → (flat es)[i]? = some x → Den0 (nw G w w') w' v x := by
  obtain ⟨a, c, vs, rfl, hc, hvl, hsl, h1, hx⟩ := list_sl hlt hd hs
  have hs0 := hsl.alloc (Nat.le_refl _) (.cells #[] 54)
  have ho0 : OwnR (w.alloc (.cells #[] 54)) w.heap.size 54 3 (.slice (some ⟨w.heap.size, 0, none⟩) 0 0) 0 [] := .inl ⟨rfl, rfl, _, rfl⟩
  cases a with
  | none =>
    have hvs : vs = [] := by
      apply Classical.byContradiction
      intro hne
      obtain ⟨b, off, e, _⟩ := hsl hne
      cases e
    have he : es = [] := List.eq_nil_of_length_eq_zero (by rw [hvs] at hvl; simp at hvl; omega)
    subst he
    have qT : ∀ (w : World) (a : Option Addr) (n c : Nat), (binOp .eql 25 (.slice a n c) (.slice none 0 0)).run Tryd.prog w = .ok (.bool a.isNone) w := fun w a n c => Lib.run_eql_slice_nil w _ _ a n c 0 0 (show Tryd.prog.underlying 25 = some (.slice 54) by kernel_rfl)
    go_enter Tryd.func46, Tryd.ntmps46
    go_wp2_with fail
    go_ret
    exact ⟨_, [], rfl, Below.refl _ _, .inl ⟨rfl, rfl, _, rfl⟩, by simp, fun i v x h => by simp at h⟩
  | some p =>
    have qT : ∀ (w : World) (a : Option Addr) (n c : Nat), (binOp .eql 25 (.slice a n c) (.slice none 0 0)).run Tryd.prog w = .ok (.bool a.isNone) w := fun w a n c => Lib.run_eql_slice_nil w _ _ a n c 0 0 (show Tryd.prog.underlying 25 = some (.slice 54) by kernel_rfl)
    go_enter Tryd.func46, Tryd.ntmps46
    go_wp2_with (at_builtin; refine app_slR _ rfl (.tmp 5) (.tmp 6) 25 rfl ei23 w.heap.size _ 0 [] rfl ho0 w.heap.size (some p) es.length c vs rfl hs0 hvl h1 (by simp only [maxLen]; omega) (by omega) (by simp) ?_; intro v w1 ho1 hg1 hb1)
    go_ret
    have hb : Below w.heap.size w w1 := ((Below.refl _ w).alloc (Nat.le_refl _) _).trans hb1
    rw [Nat.zero_add, List.nil_append] at ho1
    refine ⟨_, vs, rfl, hb, ho1, h1, fun i v x hv hxx => ?_⟩
    exact hk _ _ _ (List.mem_of_getElem? hxx) hb (hx i v x hv hxx)

theorem cloneS_own (es : List D) (F G : Nat → Nat → Prop) (w : World) (v : Value) (hlt : Lt F w) (hd : Den0 F w v (.list es)) (hk : Keep F G w es) (hs : ∀ e ∈ es, (dcells e).length = 1) (hL : es.length ≤ 1000000000) :
    Calls Tryd.prog 47 #[v] w fun e w' => ∃ u vs, e = .returned u ∧ Ge w w' ∧ OwnR w' w.heap.size 9 1 u es.length vs ∧ (∀ x ∈ vs, x.oneCell' = true) ∧ ∀ (i : Nat) (v : Value) (x : D), vs[i]? = some v → (flat es)[i]? = some x → Den0 (nw G w w') w' v x := by
  obtain ⟨a, c, vs, rfl, hc, hvl, hsl, h1, hx⟩ := list_sl hlt hd hs
  have hs0 := hsl.alloc (Nat.le_refl _) (.cells #[] 9)
  have ho0 : OwnR (w.alloc (.cells #[] 9)) w.heap.size 9 1 (.slice (some ⟨w.heap.size, 0, none⟩) 0 0) 0 [] := .inl ⟨rfl, rfl, _, rfl⟩
  cases a with
  | none =>
    have hvs : vs = [] := by
      apply Classical.byContradiction
      intro hne
      obtain ⟨b, off, e, _⟩ := hsl hne
      cases e
    have he : es = [] := List.eq_nil_of_length_eq_zero (by rw [hvs] at hvl; simp at hvl; omega)
    subst he
    have qT : ∀ (w : World) (a : Option Addr) (n c : Nat), (binOp .eql 26 (.slice a n c) (.slice none 0 0)).run Tryd.prog w = .ok (.bool a.isNone) w := fun w a n c => Lib.run_eql_slice_nil w _ _ a n c 0 0 (show Tryd.prog.underlying 26 = some (.slice 9) by kernel_rfl)
    go_enter Tryd.func47, Tryd.ntmps47
    go_wp2_with fail
    go_ret
    exact ⟨_, [], rfl, Below.refl _ _, .inl ⟨rfl, rfl, _, rfl⟩, by simp, fun i v x h => by simp at h⟩
  | some p =>
    have qT : ∀ (w : World) (a : Option Addr) (n c : Nat), (binOp .eql 26 (.slice a n c) (.slice none 0 0)).run Tryd.prog w = .ok (.bool a.isNone) w := fun w a n c => Lib.run_eql_slice_nil w _ _ a n c 0 0 (show Tryd.prog.underlying 26 = some (.slice 9) by kernel_rfl)
    go_enter Tryd.func47, Tryd.ntmps47
    go_wp2_with (at_builtin; refine app_slR _ rfl (.tmp 5) (.tmp 6) 26 rfl ei24 w.heap.size _ 0 [] rfl ho0 w.heap.size (some p) es.length c vs rfl hs0 hvl h1 (by simp only [maxLen]; omega) (by omega) (by simp) ?_; intro v w1 ho1 hg1 hb1)
    go_ret
    have hb : Below w.heap.size w w1 := ((Below.refl _ w).alloc (Nat.le_refl _) _).trans hb1
    rw [Nat.zero_add, List.nil_append] at ho1
    refine ⟨_, vs, rfl, hb, ho1, h1, fun i v x hv hxx => ?_⟩
    exact hk _ _ _ (List.mem_of_getElem? hxx) hb (hx i v x hv hxx)

end Go.Av
namespace Go.Av
open Go.Proofs Go.RowKit Go.Proofs.YtfhpckkldelkcaaDoor
variable [Ek]
def OwnG (w : World) (lo hi : Nat) (e : TypeId) (sz : Nat) (v : Value) (n : Nat) (xs : List Value) : Prop :=
  ∃ A c, v = .slice A n c ∧ (n ≤ c ∧ c ≤ maxLen) ∧ xs.length = n * sz ∧ (n = 0 ∨ ∃ g cur, A = some ⟨g, 0, none⟩ ∧ lo ≤ g ∧ g < hi ∧ g < w.heap.size ∧ w.heap[g]? = some (.cells cur e (0, 0)) ∧ n * sz ≤ cur.size ∧ cur.toList.take (n * sz) = xs)
theorem OwnG.of {w : World} {base n sz : Nat} {e : TypeId} {v : Value} {xs : List Value} (h : OwnR w base e sz v n xs) : OwnG w base w.heap.size e sz v n xs := by
  rcases h with ⟨rfl, rfl, A, rfl⟩ | ⟨hl, ⟨rfl, rfl⟩ | ⟨g, cap, cur, rfl, hg, hh, hc, hm, hcs, ht⟩⟩
  · exact ⟨A, 0, rfl, ⟨Nat.le_refl _, Nat.zero_le _⟩, by simp, .inl rfl⟩
  · exact ⟨none, 0, rfl, ⟨Nat.le_refl _, Nat.zero_le _⟩, hl, .inl rfl⟩
  · have hgl : g < w.heap.size := (Array.getElem?_eq_some_iff.1 hh).1
    exact ⟨_, cap, rfl, ⟨hc, hm⟩, hl, .inr ⟨g, cur, rfl, hg, hgl, hgl, hh, by rw [hcs]; exact Nat.mul_le_mul_right _ hc, ht⟩⟩
theorem OwnG.gb {w w' : World} {lo lo' hi hi' n sz A : Nat} {e : TypeId} {v : Value} {xs : List Value} (h : OwnG w lo hi e sz v n xs) (hg : w.grownBy w' (some A)) (hA : A < lo) (hl : lo' ≤ lo) (hh : hi ≤ hi') : OwnG w' lo' hi' e sz v n xs := by
  obtain ⟨a, c, rfl, hc, hx, h | ⟨g, cur, rfl, h1, h2, h3, h4, h5, h6⟩⟩ := h
  · exact ⟨a, c, rfl, hc, hx, .inl h⟩
  · exact ⟨_, c, rfl, hc, hx, .inr ⟨g, cur, rfl, Nat.le_trans hl h1, Nat.lt_of_lt_of_le h2 hh, Nat.lt_of_lt_of_le h3 hg.size, (hg.block g h3 (fun e => by injection e with e; omega)).trans h4, h5, h6⟩⟩
theorem OwnG.ge {w w' : World} {lo lo' hi hi' n sz : Nat} {e : TypeId} {v : Value} {xs : List Value} (h : OwnG w lo hi e sz v n xs) (hg : Ge w w') (hl : lo' ≤ lo) (hh : hi ≤ hi') : OwnG w' lo' hi' e sz v n xs := by
  obtain ⟨a, c, rfl, hc, hx, h | ⟨g, cur, rfl, h1, h2, h3, h4, h5, h6⟩⟩ := h
  · exact ⟨a, c, rfl, hc, hx, .inl h⟩
  · exact ⟨_, c, rfl, hc, hx, .inr ⟨g, cur, rfl, Nat.le_trans hl h1, Nat.lt_of_lt_of_le h2 hh, Nat.lt_of_lt_of_le h3 hg.size, (hg.block g h3).trans h4, h5, h6⟩⟩
def Rd (vs : List Value) (es : List D) : Prop := (∀ x ∈ vs, x.oneCell' = true) ∧ ∀ (F : Nat → Nat → Prop) (w : World) (i : Nat) (v : Value) (x : D), vs[i]? = some v → (flat es)[i]? = some x → Den0 F w v x
theorem cloneA_ge {la : List D} {F : Nat → Nat → Prop} {w W : World} {v : Value} (hlt : Lt F w) (hd : Den0 F w v (.list la)) (hp : ∀ x ∈ flat la, noPtr x = true) (hs : ∀ e ∈ la, (dcells e).length = 3) (hL : la.length ≤ 1000000000) (hG : Ge w W) :
    Calls Tryd.prog 46 #[v] W fun e W' => ∃ x n c vs, e = .returned (.slice x n c) ∧ Ge W W' ∧ OwnG W' W.heap.size W'.heap.size 54 3 (.slice x n c) la.length vs ∧ Rd vs la := by
  refine (cloneA_own la F F W v (lt_ge hlt hG) (den_ge hd hlt hG) (Keep.same (lt_ge hlt hG)) hs hL).mono ?_
  rintro e W' ⟨u, vs, rfl, hb, ho, h1, hr⟩
  have hO := OwnG.of ho
  obtain ⟨A, c, rfl, _⟩ := id hO
  exact ⟨A, _, c, vs, rfl, hb, hO, h1, fun F w i v x hv hx => noPtr_den (hp x (List.mem_of_getElem? hx)) (hr i v x hv hx)⟩
theorem cloneS_ge {la : List D} {F : Nat → Nat → Prop} {w W : World} {v : Value} (hlt : Lt F w) (hd : Den0 F w v (.list la)) (hp : ∀ x ∈ flat la, noPtr x = true) (hs : ∀ e ∈ la, (dcells e).length = 1) (hL : la.length ≤ 1000000000) (hG : Ge w W) :
    Calls Tryd.prog 47 #[v] W fun e W' => ∃ x n c vs, e = .returned (.slice x n c) ∧ Ge W W' ∧ OwnG W' W.heap.size W'.heap.size 9 1 (.slice x n c) la.length vs ∧ Rd vs la := by
  refine (cloneS_own la F F W v (lt_ge hlt hG) (den_ge hd hlt hG) (Keep.same (lt_ge hlt hG)) hs hL).mono ?_
  rintro e W' ⟨u, vs, rfl, hb, ho, h1, hr⟩
  have hO := OwnG.of ho
  obtain ⟨A, c, rfl, _⟩ := id hO
  exact ⟨A, _, c, vs, rfl, hb, hO, h1, fun F w i v x hv hx => noPtr_den (hp x (List.mem_of_getElem? hx)) (hr i v x hv hx)⟩
end Go.Av
namespace Go.Av
open Go.Proofs Go.RowKit Go.Proofs.YtfhpckkldelkcaaDoor
variable [Ek]
theorem copied_own (p k : Int) (sp nm tx : ByteArray) (v4 v5 : Value) (la ls : List D) (F : Nat → Nat → Prop) (w : World) (hlt : Lt F w) (hp4 : ∀ x ∈ flat la, noPtr x = true) (hp5 : ∀ x ∈ flat ls, noPtr x = true) (hd4 : Den0 F w v4 (.list la)) (hd5 : Den0 F w v5 (.list ls))
    (hs4 : ∀ e ∈ la, (dcells e).length = 3) (hs5 : ∀ e ∈ ls, (dcells e).length = 1) (hL4 : la.length ≤ 1000000000) (hL5 : ls.length ≤ 1000000000) (o4 : v4.oneCell' = true) (o5 : v5.oneCell' = true) :
    Calls Tryd.prog 29 #[.agg #[.int .i64 p, .int .i64 k, .string sp, .string nm, v4, v5, .string tx]] w fun e w' => ∃ u4 u5 m vs4 vs5, e = .returned (.agg #[.int .i64 p, .int .i64 k, .string sp, .string nm, u4, u5, .string tx]) ∧ Ge w w' ∧ w.heap.size ≤ m ∧ m ≤ w'.heap.size ∧
      OwnG w' w.heap.size m 54 3 u4 la.length vs4 ∧ OwnG w' m w'.heap.size 9 1 u5 ls.length vs5 ∧ Rd vs4 la ∧ Rd vs5 ls := by
  have hW0 : ∀ o1 o2, Ge w ((w.alloc o1).alloc o2) := fun o1 o2 => ((Below.refl _ w).alloc (Nat.le_refl _) o1).alloc (by simp) o2
  have c46 := fun v W => cloneA_ge (la := la) (F := F) (w := w) (v := v) (W := W)
  have c47 := fun v W => cloneS_ge (la := ls) (F := F) (w := w) (v := v) (W := W)
  go_enter Tryd.func29, Tryd.ntmps29
  go_wp2_with fail
  have G0 := hW0 (.cells #[.int .i64 p, .int .i64 k, .string sp, .string nm, v4, v5, .string tx] 28) (.cells #[.int .i64 0, .int .i64 0, .string ⟨#[]⟩, .string ⟨#[]⟩, .slice none 0 0, .slice none 0 0, .string ⟨#[]⟩] 28)
  have B0 : Bk ((w.alloc (.cells #[.int .i64 p, .int .i64 k, .string sp, .string nm, v4, v5, .string tx] 28)).alloc (.cells #[.int .i64 0, .int .i64 0, .string ⟨#[]⟩, .string ⟨#[]⟩, .slice none 0 0, .slice none 0 0, .string ⟨#[]⟩] 28)) w.heap.size 28 #[.int .i64 p, .int .i64 k, .string sp, .string nm, v4, v5, .string tx] := (Bk.new _ _ _).alloc _
  have Z0 : Bk ((w.alloc (.cells #[.int .i64 p, .int .i64 k, .string sp, .string nm, v4, v5, .string tx] 28)).alloc (.cells #[.int .i64 0, .int .i64 0, .string ⟨#[]⟩, .string ⟨#[]⟩, .slice none 0 0, .slice none 0 0, .string ⟨#[]⟩] 28)) (w.heap.size + 1) 28 #[.int .i64 0, .int .i64 0, .string ⟨#[]⟩, .string ⟨#[]⟩, .slice none 0 0, .slice none 0 0, .string ⟨#[]⟩] := by
    have := Bk.new (w.alloc (.cells #[.int .i64 p, .int .i64 k, .string sp, .string nm, v4, v5, .string tx] 28)) 28 #[.int .i64 0, .int .i64 0, .string ⟨#[]⟩, .string ⟨#[]⟩, .slice none 0 0, .slice none 0 0, .string ⟨#[]⟩]
    simpa using this
  go_region_law (first
    | (go_simp; go_at_call 46; refine (c46 _ _ hlt hd4 hp4 hs4 hL4 (by first | exact G0 | exact G0.drew)).mono ?_; rintro e W4 ⟨x4, n4, e4, vs4, rfl, hb4, hv4, hr4⟩; have G4 := Ge.tr (by first | exact G0 | exact G0.drew) hb4; have B4 := Bk.below (by first | exact B0 | exact B0.drew) hb4 (by first | exact B0.lt | exact B0.drew.lt); have q4 := B4.cell 5; have q7 := B4.cell 4; have q5 := B4.free 4; have q6 := B4.free 5; have Z4 := Bk.below (by first | exact Z0 | exact Z0.drew) hb4 (by first | exact Z0.lt | exact Z0.drew.lt); simp only [List.getElem?_toArray, List.getElem?_cons_succ, List.getElem?_cons_zero] at q4 q7)
    | (go_simp; go_at_call 47; refine (c47 _ _ hlt hd5 hp5 hs5 hL5 (by first | exact G4 | exact G4.drew | exact ge_put G4 (by simp) _)).mono ?_; rintro e W5 ⟨x5, n5, e5, vs5, rfl, hb5, hv5, hr5⟩; have B5 := Bk.below (by first | exact B4 | exact B4.put _ _) hb5 (by first | (simp; exact B4.lt) | exact B4.lt); have s6 := B5.cell 4; have s7 := B5.cell 5; simp at s6 s7; have s4 := B5.free 4; have s5 := B5.free 5; have Z5 := Bk.below (by first | exact Z4 | exact Z4.other (by simp) _) hb5 (by first | exact Z4.lt | (simp; exact Z4.lt))))
  all_goals (
    have BF := (B5.put 4 (.slice x4 n4 e4)).put 5 (.slice x5 n5 e5)
    have ZF := (Z5.other (p := ⟨w.heap.size, 4, none⟩) (by simp) (.slice x4 n4 e4)).other (p := ⟨w.heap.size, 5, none⟩) (by simp) (.slice x5 n5 e5)
    have GA := grown_put (grown_put (grown_refl W5 (some w.heap.size)) (p := ⟨w.heap.size, 4, none⟩) rfl (.slice x4 n4 e4)) (p := ⟨w.heap.size, 5, none⟩) rfl (.slice x5 n5 e5)
    have hsz : w.heap.size < W4.heap.size := B4.lt
    have G5 : Ge w W5 := G4.tr hb5
    have z4 : w.heap.size + 2 ≤ W4.heap.size := Nat.le_trans (by first | (show _ ≤ ((w.heap.push _).push _).size; simp; done) | simp) hb4.size
    have v5F := OwnG.gb (lo' := W4.heap.size) (hi' := W5.heap.size) hv5 GA (by first | omega | (simp; omega)) (by first | exact Nat.le_refl _ | simp) (Nat.le_refl _)
    have v4F := OwnG.gb (lo' := w.heap.size + 2) (hi' := W4.heap.size) hv4 (grown_put (grown_put (grown_ge (by first | exact grown_refl W4 _ | exact grown_put (grown_refl W4 (some w.heap.size)) (p := ⟨w.heap.size, 4, none⟩) rfl (.slice x4 n4 e4)) hb5) (p := ⟨w.heap.size, 4, none⟩) rfl (.slice x4 n4 e4)) (p := ⟨w.heap.size, 5, none⟩) rfl (.slice x5 n5 e5)) (by simp; try omega) (by simp) (Nat.le_refl _)
    have z6 : W4.heap.size ≤ W5.heap.size := by first | exact hb5.size | exact Nat.le_trans (by simp) hb5.size
    have z66 := z6
    have z7 : ((W5.setCell ⟨w.heap.size, 4, none⟩ (.slice x4 n4 e4)).setCell ⟨w.heap.size, 5, none⟩ (.slice x5 n5 e5)).heap.size = W5.heap.size := by simp
    have GF : Ge w ((W5.setCell ⟨w.heap.size, 4, none⟩ (.slice x4 n4 e4)).setCell ⟨w.heap.size, 5, none⟩ (.slice x5 n5 e5)) := ge_put (ge_put G5 (by simp) _) (by simp) _
    have z8 := z4
    clear GA B5 Z5 z4 s4 s5 s6 s7 q4 q5 q6 q7 B4 Z4 hb5 hv5 hv4 hb4 G5 G4
    generalize ((W5.setCell ⟨w.heap.size, 4, none⟩ (.slice x4 n4 e4)).setCell ⟨w.heap.size, 5, none⟩ (.slice x5 n5 e5)) = W6 at *
    have b0 := BF.cell 0; have b1 := BF.cell 1; have b2 := BF.cell 2; have b3 := BF.cell 3; have b4 := BF.cell 4; have b5 := BF.cell 5; have b6 := BF.cell 6
    have z0 := ZF.cell 0; have z1 := ZF.cell 1; have z2 := ZF.cell 2; have z3 := ZF.cell 3; have z4 := ZF.cell 4; have z5 := ZF.cell 5; have z6 := ZF.cell 6
    have f0 := ZF.free 0; have f1 := ZF.free 1; have f2 := ZF.free 2; have f3 := ZF.free 3; have f4 := ZF.free 4; have f5 := ZF.free 5; have f6 := ZF.free 6
    simp at b0 b1 b2 b3 b4 b5 b6 z0 z1 z2 z3 z4 z5 z6)
  all_goals go_wp2_with fail
  all_goals (
    have BZ := ((((((ZF.put 0 (.int .i64 p)).put 1 (.int .i64 k)).put 2 (.string sp)).put 3 (.string nm)).put 4 (.slice x4 n4 e4)).put 5 (.slice x5 n5 e5)).put 6 (.string tx)
    have GZ := grown_put (grown_put (grown_put (grown_put (grown_put (grown_put (grown_put (grown_refl W6 (some (w.heap.size + 1))) (p := ⟨w.heap.size + 1, 0, none⟩) rfl (.int .i64 p)) (p := ⟨w.heap.size + 1, 1, none⟩) rfl (.int .i64 k)) (p := ⟨w.heap.size + 1, 2, none⟩) rfl (.string sp)) (p := ⟨w.heap.size + 1, 3, none⟩) rfl (.string nm)) (p := ⟨w.heap.size + 1, 4, none⟩) rfl (.slice x4 n4 e4)) (p := ⟨w.heap.size + 1, 5, none⟩) rfl (.slice x5 n5 e5)) (p := ⟨w.heap.size + 1, 6, none⟩) rfl (.string tx)
    have v5Z := OwnG.gb (lo' := W4.heap.size) v5F GZ (by omega) (Nat.le_refl _) (Nat.le_trans (Nat.le_of_eq z7.symm) GZ.size)
    have v4Z := OwnG.gb (lo' := w.heap.size) (hi' := W4.heap.size) v4F GZ (by omega) (by omega) (Nat.le_refl _)
    have GY : Ge w (((((((W6.setCell ⟨w.heap.size + 1, 0, none⟩ (.int .i64 p)).setCell ⟨w.heap.size + 1, 1, none⟩ (.int .i64 k)).setCell ⟨w.heap.size + 1, 2, none⟩ (.string sp)).setCell ⟨w.heap.size + 1, 3, none⟩ (.string nm)).setCell ⟨w.heap.size + 1, 4, none⟩ (.slice x4 n4 e4)).setCell ⟨w.heap.size + 1, 5, none⟩ (.slice x5 n5 e5)).setCell ⟨w.heap.size + 1, 6, none⟩ (.string tx)) := below_of_grown_row GF GZ (by omega)
    have z99 := GZ.size
    clear GZ GF b0 b1 b2 b3 b4 b5 b6 z0 z1 z2 z3 z4 z5 z6 f0 f1 f2 f3 f4 f5 f6 BF ZF
    generalize (((((((W6.setCell ⟨w.heap.size + 1, 0, none⟩ (.int .i64 p)).setCell ⟨w.heap.size + 1, 1, none⟩ (.int .i64 k)).setCell ⟨w.heap.size + 1, 2, none⟩ (.string sp)).setCell ⟨w.heap.size + 1, 3, none⟩ (.string nm)).setCell ⟨w.heap.size + 1, 4, none⟩ (.slice x4 n4 e4)).setCell ⟨w.heap.size + 1, 5, none⟩ (.slice x5 n5 e5)).setCell ⟨w.heap.size + 1, 6, none⟩ (.string tx)) = W7 at *
    have z0 := BZ.cell 0; have z1 := BZ.cell 1; have z2 := BZ.cell 2; have z3 := BZ.cell 3; have z4 := BZ.cell 4; have z5 := BZ.cell 5; have z6 := BZ.cell 6
    simp at z0 z1 z2 z3 z4 z5 z6
    refine ⟨rfl, .agg #[.int .i64 p, .int .i64 k, .string sp, .string nm, .slice x4 n4 e4, .slice x5 n5 e5, .string tx], ?_, _, _, W4.heap.size, vs4, vs5, rfl, GY, by omega, by omega, v4Z, v5Z, hr4, hr5⟩
    simp [results, go_sem, z0, z1, z2, z3, z4, z5, z6, Tryd.f29])
end Go.Av
namespace Go.Av
variable [Ek]
open Go.Proofs Go.RowKit Go.Proofs.YtfhpckkldelkcaaDoor
theorem ei22 : EI Tryd.prog 24 28 7 112 := EI.mk (z := .agg #[.int .i64 0, .int .i64 0, .string ⟨#[]⟩, .string ⟨#[]⟩, .slice none 0 0, .slice none 0 0, .string ⟨#[]⟩]) (by kernel_rfl) (by kernel_rfl) rfl (by decide)
theorem ownR_form {w : World} {base size n : Nat} {e : TypeId} {v : Value} {xs : List Value} (h : OwnR w base e size v n xs) : ∃ A c, v = .slice A n c ∧ n ≤ c := by
  rcases h with ⟨rfl, _, A, rfl⟩ | ⟨_, ⟨rfl, rfl⟩ | ⟨g, cap, cur, rfl, _, _, hc, _⟩⟩
  · exact ⟨_, _, rfl, Nat.le_refl _⟩
  · exact ⟨_, _, rfl, Nat.le_refl _⟩
  · exact ⟨_, _, rfl, hc⟩
def isNode : D → Bool
  | .agg [.int .i64 _, .int .i64 _, .str _, .str _, .list as_, .list ss, .str _] => as_.all (fun e => (dcells e).length == 3) && ss.all (fun e => (dcells e).length == 1) && decide (as_.length ≤ 1000000) && decide (ss.length ≤ 1000000)
  | _ => false
theorem isNode_inv {d : D} (h : isNode d = true) : ∃ p k sp nm la ls tx, d = .agg [.int .i64 p, .int .i64 k, .str sp, .str nm, .list la, .list ls, .str tx] ∧ (∀ e ∈ la, (dcells e).length = 3) ∧ (∀ e ∈ ls, (dcells e).length = 1) ∧ la.length ≤ 1000000 ∧ ls.length ≤ 1000000 := by
  unfold isNode at h
  split at h
  · simp only [Bool.and_eq_true, List.all_eq_true, beq_iff_eq, decide_eq_true_eq] at h
    exact ⟨_, _, _, _, _, _, _, rfl, h.1.1.1, h.1.1.2, h.1.2, h.2⟩
  · cases h
theorem isNode_len {es : List D} (h : ∀ e ∈ es, isNode e = true) : ∀ e ∈ es, (dcells e).length = 7 := fun e he => by
  obtain ⟨p, k, sp, nm, la, ls, tx, rfl, _⟩ := isNode_inv (h e he)
  rfl
def RowN (F : Nat → Nat → Prop) (es : List D) (g : Nat) (wr : World) : Prop :=
  ∃ cur : Array Value, wr.heap[g]? = some (.cells cur 28 (0, 0)) ∧ ∀ (m : Nat) (x : D), (flat es)[m]? = some x → ∃ v : Value, cur[m]? = some v ∧ v.oneCell' = true ∧ Den0 (nx F (g + 1) wr) wr v x
theorem RowN.ge {F : Nat → Nat → Prop} {es : List D} {g : Nat} {w wr W : World} (h : RowN F es g wr) (hlt : Lt F w) (hw : w.heap.size ≤ wr.heap.size) (hb : Ge wr W) : RowN F es g W := by
  obtain ⟨cur, h1, h2⟩ := h
  refine ⟨cur, (hb.block g (Array.getElem?_eq_some_iff.1 h1).1).trans h1, fun m x hx => ?_⟩
  obtain ⟨v, h3, h4, h5⟩ := h2 m x hx
  refine ⟨v, h3, h4, h5.ext (S := fun _ => False) ⟨hb.os, hb.tape, hb.output, hb.size, fun b h _ => hb.block b h, fun b o h => h.imp id fun h => ⟨h.1, Nat.lt_of_lt_of_le h.2 hb.size⟩, fun b o h => ?_, fun b es c hf hm => ?_⟩⟩
  · have hb1 : b < wr.heap.size := h.elim (fun h => Nat.lt_of_lt_of_le (hlt b o h) hw) fun h => h.2
    unfold World.cell?
    rw [hb.block b hb1]
  · have hb1 : b < wr.heap.size := hf.elim (fun h => Nat.lt_of_lt_of_le (hlt b 0 h) hw) fun h => h.2
    exact (hb.block b hb1).trans hm
theorem RowN.put {F : Nat → Nat → Prop} {es : List D} {g m : Nat} {w wr : World} {v : Value} {x : D} (h : RowN F es g wr) (hlt : Lt F w) (hw : w.heap.size ≤ wr.heap.size) (hg : w.heap.size ≤ g) (hx : (flat es)[m]? = some x) (h1 : v.oneCell' = true) (hv : Den0 (nx F (g + 1) wr) wr v x) : RowN F es g (wr.setCell ⟨g, m, none⟩ v) := by
  obtain ⟨cur, h2, h3⟩ := h
  have hG : wr.grownBy (wr.setCell ⟨g, m, none⟩ v) (some g) := grown_put (grown_refl wr _) rfl v
  have keep : ∀ {u y}, Den0 (nx F (g + 1) wr) wr u y → Den0 (nx F (g + 1) (wr.setCell ⟨g, m, none⟩ v)) (wr.setCell ⟨g, m, none⟩ v) u y := fun hu => nx_keep hu hlt hw hg (Nat.lt_succ_self g) (Nat.le_refl _) hG
  refine ⟨cur.setIfInBounds m v, heap_setCell_same wr g m cur 28 v h2, fun m' x' hx' => ?_⟩
  obtain ⟨u, h4, h5, h6⟩ := h3 m' x' hx'
  by_cases hm : m' = m
  · subst hm
    rw [hx] at hx'
    obtain rfl := Option.some.inj hx'
    have hlt' := (Array.getElem?_eq_some_iff.1 h4).1
    exact ⟨v, by simp [hlt'], h1, keep hv⟩
  · exact ⟨u, by rw [Array.getElem?_setIfInBounds_ne (fun e => hm e.symm)]; exact h4, h5, keep h6⟩
theorem RowN.cell {F : Nat → Nat → Prop} {es : List D} {g : Nat} {wr : World} (h : RowN F es g wr) {m : Nat} {x : D} (hx : (flat es)[m]? = some x) : ∃ v, wr.cell? ⟨g, m, none⟩ = some v ∧ v.oneCell' = true ∧ Den0 (nx F (g + 1) wr) wr v x ∧ wr.frozen? ⟨g, m, none⟩ = false := by
  obtain ⟨cur, h1, h2⟩ := h
  obtain ⟨v, h3, h4, h5⟩ := h2 m x hx
  exact ⟨v, by rw [cell_of_row wr g m cur 28 (0, 0) h1]; exact h3, h4, h5, frozen_of_row wr g m cur 28 h1⟩
theorem node_cells {F : Nat → Nat → Prop} {w : World} {a : Option Addr} {vs : List Value} {es : List D} (hes : ∀ e ∈ es, isNode e = true) (hvl : vs.length = es.length * 7) (hsl : Sl w w.heap.size a vs)
    (hx : ∀ (i : Nat) (v : Value) (x : D), vs[i]? = some v → (flat es)[i]? = some x → Den0 F w v x) {i : Nat} (hi : i < es.length) :
    ∃ b off la ls x4 c4 x5 c5, a = some ⟨b, off, none⟩ ∧ b < w.heap.size ∧ w.cell? ⟨b, off + (i * 7 + 4), none⟩ = some (.slice x4 la.length c4) ∧ w.cell? ⟨b, off + (i * 7 + 5), none⟩ = some (.slice x5 ls.length c5) ∧
      Den0 F w (.slice x4 la.length c4) (.list la) ∧ Den0 F w (.slice x5 ls.length c5) (.list ls) ∧ (flat es)[i * 7 + 4]? = some (.list la) ∧ (flat es)[i * 7 + 5]? = some (.list ls) ∧ (∀ e ∈ la, (dcells e).length = 3) ∧ (∀ e ∈ ls, (dcells e).length = 1) ∧ la.length ≤ 1000000 ∧ ls.length ≤ 1000000 := by
  have hei : es[i]? = some es[i] := List.getElem?_eq_getElem hi
  obtain ⟨p, k, sp, nm, la, ls, tx, he, h4, h5, h6, h7⟩ := isNode_inv (hes es[i] (List.getElem_mem hi))
  rw [he] at hei
  have f4 := flat_at (isNode_len hes) hei 4 (by decide)
  have f5 := flat_at (isNode_len hes) hei 5 (by decide)
  obtain ⟨b, off, ha, hb, hc⟩ := hsl (by intro e; rw [e] at hvl; simp at hvl; omega)
  have l4 : i * 7 + 4 < vs.length := by omega
  have l5 : i * 7 + 5 < vs.length := by omega
  have d4 := hx _ _ _ (List.getElem?_eq_getElem l4) f4
  have d5 := hx _ _ _ (List.getElem?_eq_getElem l5) f5
  have q4 := hc _ l4
  have q5 := hc _ l5
  generalize vs[i * 7 + 4] = v4 at *
  generalize vs[i * 7 + 5] = v5 at *
  have e4 : ∃ x c, v4 = .slice x la.length c := by
    cases d4 with
    | list a n c sz es vs h1 h2 h3 h4 h5 h6 h7 => exact ⟨a, c, by rw [h1]⟩
  have e5 : ∃ x c, v5 = .slice x ls.length c := by
    cases d5 with
    | list a n c sz es vs h1 h2 h3 h4 h5 h6 h7 => exact ⟨a, c, by rw [h1]⟩
  obtain ⟨x4, c4, rfl⟩ := e4
  obtain ⟨x5, c5, rfl⟩ := e5
  exact ⟨b, off, la, ls, x4, c4, x5, c5, ha, hb, q4, q5, d4, d5, f4, f5, h4, h5, h6, h7⟩
end Go.Av
namespace Go.Av
variable [Ek]
open Go.Proofs Go.RowKit Go.Proofs.YtfhpckkldelkcaaDoor
def szAll (sz : Nat) (es : List D) : Bool := es.all (fun e => (dcells e).length == sz) && decide (es.length ≤ 1000000)
theorem szAll_inv {sz : Nat} {es : List D} (h : szAll sz es = true) : (∀ e ∈ es, (dcells e).length = sz) ∧ es.length ≤ 1000000 := by
  unfold szAll at h
  simp only [Bool.and_eq_true, List.all_eq_true, beq_iff_eq, decide_eq_true_eq] at h
  exact h
def nodesOk (es : List D) : Bool := es.all isNode && decide (es.length ≤ 10000)
theorem nodesOk_inv {es : List D} (h : nodesOk es = true) : (∀ e ∈ es, isNode e = true) ∧ es.length ≤ 10000 := by
  unfold nodesOk at h
  simp only [Bool.and_eq_true, List.all_eq_true, decide_eq_true_eq] at h
  exact h
theorem den_list0 {c : Nat → Nat} {ν : Nat → Nat → Nat} {F : Nat → Nat → Prop} {w : World} {v : Value} {es : List D} (h : Den c ν F w v (.list es)) : Den0 F w v (.list es) := by
  cases h with
  | pure _ _ h => exact h
theorem node_pure {d : D} (h : isNode d = true) : ∀ {c ν F w v}, Den c ν F w v d → ∃ p k sp nm la ls tx v4 v5, d = .agg [.int .i64 p, .int .i64 k, .str sp, .str nm, .list la, .list ls, .str tx] ∧ v = .agg #[.int .i64 p, .int .i64 k, .string ⟨sp.toArray⟩, .string ⟨nm.toArray⟩, v4, v5, .string ⟨tx.toArray⟩] ∧
    Den0 F w v4 (.list la) ∧ Den0 F w v5 (.list ls) ∧ v4.oneCell' = true ∧ v5.oneCell' = true := by
  intro c ν F w v hd
  obtain ⟨p, k, sp, nm, la, ls, tx, rfl, _⟩ := isNode_inv h
  have key : ∀ vs : List Value, vs.length = 7 → (∀ (i : Nat) (v : Value) (x : D), vs[i]? = some v → [D.int .i64 p, .int .i64 k, .str sp, .str nm, .list la, .list ls, .str tx][i]? = some x → Den c ν F w v x) →
      ∃ v4 v5, vs.toArray = #[.int .i64 p, .int .i64 k, .string ⟨sp.toArray⟩, .string ⟨nm.toArray⟩, v4, v5, .string ⟨tx.toArray⟩] ∧ Den0 F w v4 (.list la) ∧ Den0 F w v5 (.list ls) := by
    intro vs hl hh
    match vs, hl with
    | [u0, u1, u2, u3, u4, u5, u6], _ =>
      have h0 := (hh 0 u0 _ rfl rfl).int_
      have h1 := (hh 1 u1 _ rfl rfl).int_
      have h2 := (hh 2 u2 _ rfl rfl).str_
      have h3 := (hh 3 u3 _ rfl rfl).str_
      have h4 := den_list0 (hh 4 u4 _ rfl rfl)
      have h5 := den_list0 (hh 5 u5 _ rfl rfl)
      have h6 := (hh 6 u6 _ rfl rfl).str_
      subst h0 h1 h2 h3 h6
      exact ⟨u4, u5, rfl, h4, h5⟩
  have one : ∀ {u : Value} {l : List D}, Den0 F w u (.list l) → u.oneCell' = true := by
    intro u l h
    cases h
    rfl
  cases hd with
  | pure _ _ hp =>
    cases hp with
    | agg vs cs h1 h2 h3 =>
      obtain ⟨v4, v5, e, h4, h5⟩ := key vs h1 fun i v d a b => .pure _ _ (h3 i v d a b)
      exact ⟨p, k, sp, nm, la, ls, tx, v4, v5, rfl, by rw [e], h4, h5, one h4, one h5⟩
  | agg vs cs h1 h2 h3 =>
    obtain ⟨v4, v5, e, h4, h5⟩ := key vs h1 h3
    exact ⟨p, k, sp, nm, la, ls, tx, v4, v5, rfl, by rw [e], h4, h5, one h4, one h5⟩
theorem node_den {F : Nat → Nat → Prop} {w : World} {p k : Int} {sp nm tx : List UInt8} {la ls : List D} {v4 v5 : Value} (h4 : Den0 F w v4 (.list la)) (h5 : Den0 F w v5 (.list ls)) (o4 : v4.oneCell' = true) (o5 : v5.oneCell' = true) :
    Den0 F w (.agg #[.int .i64 p, .int .i64 k, .string ⟨sp.toArray⟩, .string ⟨nm.toArray⟩, v4, v5, .string ⟨tx.toArray⟩]) (.agg [.int .i64 p, .int .i64 k, .str sp, .str nm, .list la, .list ls, .str tx]) := by
  refine Den0.agg [.int .i64 p, .int .i64 k, .string ⟨sp.toArray⟩, .string ⟨nm.toArray⟩, v4, v5, .string ⟨tx.toArray⟩] _ rfl ?_ ?_
  · intro u hu
    simp only [List.mem_cons, List.not_mem_nil, or_false] at hu
    rcases hu with rfl | rfl | rfl | rfl | rfl | rfl | rfl <;> first | rfl | exact o4 | exact o5
  · intro i v x hv hx
    match i with
    | 0 => simp at hv hx; subst hv; subst hx; exact .int _ _
    | 1 => simp at hv hx; subst hv; subst hx; exact .int _ _
    | 2 => simp at hv hx; subst hv; subst hx; exact .str _
    | 3 => simp at hv hx; subst hv; subst hx; exact .str _
    | 4 => simp at hv hx; subst hv; subst hx; exact h4
    | 5 => simp at hv hx; subst hv; subst hx; exact h5
    | 6 => simp at hv hx; subst hv; subst hx; exact .str _
    | i + 7 => simp at hv
def orExt (a b : Call) : Call := fun f args pbs => match a f args pbs with | some r => some r | none => b f args pbs
theorem orExt_ok {P : Program} [Gs] {a b : Call} (ha : CallOK P a) (hb : CallOK P b) : CallOK P (orExt a b) := by
  intro f args pbs d r pbs' h
  unfold orExt at h
  split at h
  · rename_i x hx
    injection h with h
    subst h
    exact ha f args pbs d r pbs' hx
  · exact hb f args pbs d r pbs' h
end Go.Av
namespace Go.Av
open Go.Proofs Go.RowKit Go.Proofs.YtfhpckkldelkcaaDoor
variable [Ek]
def NodeR (cur : Array Value) (w : World) (i a m b : Nat) (e : D) : Prop :=
  ∃ p k sp nm la ls tx u4 u5 vs4 vs5, e = .agg [.int .i64 p, .int .i64 k, .str sp, .str nm, .list la, .list ls, .str tx] ∧
    (cur[i * 7]? = some (.int .i64 p) ∧ cur[i * 7 + 1]? = some (.int .i64 k) ∧ cur[i * 7 + 2]? = some (.string ⟨sp.toArray⟩) ∧ cur[i * 7 + 3]? = some (.string ⟨nm.toArray⟩) ∧ cur[i * 7 + 4]? = some u4 ∧ cur[i * 7 + 5]? = some u5 ∧ cur[i * 7 + 6]? = some (.string ⟨tx.toArray⟩)) ∧
    OwnG w a m 54 3 u4 la.length vs4 ∧ OwnG w m b 9 1 u5 ls.length vs5 ∧ Rd vs4 la ∧ Rd vs5 ls
def DocC (w : World) (lo hi : Nat) (cur : Array Value) (es : List D) (k : Nat) : Prop :=
  ∃ r m : Nat → Nat, lo ≤ r 0 ∧ r k ≤ hi ∧ (∀ i, i < k → r i ≤ m i ∧ m i ≤ r (i + 1)) ∧ ∀ i e, i < k → es[i]? = some e → NodeR cur w i (r i) (m i) (r (i + 1)) e
theorem NodeR.ge {cur : Array Value} {w w' : World} {i a m b : Nat} {e : D} (h : NodeR cur w i a m b e) (hg : Ge w w') : NodeR cur w' i a m b e := by
  obtain ⟨p, k, sp, nm, la, ls, tx, u4, u5, vs4, vs5, he, hc, h4, h5, r4, r5⟩ := h
  exact ⟨p, k, sp, nm, la, ls, tx, u4, u5, vs4, vs5, he, hc, h4.ge hg (Nat.le_refl _) (Nat.le_refl _), h5.ge hg (Nat.le_refl _) (Nat.le_refl _), r4, r5⟩
theorem NodeR.gb {cur : Array Value} {w w' : World} {i a m b A : Nat} {e : D} (h : NodeR cur w i a m b e) (hg : w.grownBy w' (some A)) (hA : A < a) (hm : a ≤ m) : NodeR cur w' i a m b e := by
  obtain ⟨p, k, sp, nm, la, ls, tx, u4, u5, vs4, vs5, he, hc, h4, h5, r4, r5⟩ := h
  exact ⟨p, k, sp, nm, la, ls, tx, u4, u5, vs4, vs5, he, hc, h4.gb hg hA (Nat.le_refl _) (Nat.le_refl _), h5.gb hg (by omega) (Nat.le_refl _) (Nat.le_refl _), r4, r5⟩
theorem NodeR.cells {cur cur' : Array Value} {w : World} {i a m b : Nat} {e : D} (h : NodeR cur w i a m b e) (hc' : ∀ j, j < 7 → cur'[i * 7 + j]? = cur[i * 7 + j]?) : NodeR cur' w i a m b e := by
  obtain ⟨p, k, sp, nm, la, ls, tx, u4, u5, vs4, vs5, he, ⟨c0, c1, c2, c3, c4, c5, c6⟩, h4, h5, r4, r5⟩ := h
  exact ⟨p, k, sp, nm, la, ls, tx, u4, u5, vs4, vs5, he, ⟨(hc' 0 (by decide)).trans c0, (hc' 1 (by decide)).trans c1, (hc' 2 (by decide)).trans c2, (hc' 3 (by decide)).trans c3, (hc' 4 (by decide)).trans c4, (hc' 5 (by decide)).trans c5, (hc' 6 (by decide)).trans c6⟩, h4, h5, r4, r5⟩
theorem DocC.zero (w : World) (lo : Nat) (cur : Array Value) (es : List D) : DocC w lo lo cur es 0 :=
  ⟨fun _ => lo, fun _ => lo, Nat.le_refl _, Nat.le_refl _, fun i h => absurd h (Nat.not_lt_zero i), fun i e h => absurd h (Nat.not_lt_zero i)⟩
theorem NodeR.mono {cur : Array Value} {w : World} {i a m b b' : Nat} {e : D} (h : NodeR cur w i a m b e) (hb : b ≤ b') : NodeR cur w i a m b' e := by
  obtain ⟨p, k, sp, nm, la, ls, tx, u4, u5, vs4, vs5, he, hc, h4, h5, r4, r5⟩ := h
  exact ⟨p, k, sp, nm, la, ls, tx, u4, u5, vs4, vs5, he, hc, h4, h5.ge (Below.refl _ _) (Nat.le_refl _) hb, r4, r5⟩
theorem DocC.step {w : World} {lo hi hi' m : Nat} {cur : Array Value} {es : List D} {k : Nat} {e : D} (h : DocC w lo hi cur es k) (he : es[k]? = some e) (hm : hi ≤ m ∧ m ≤ hi') (hn : NodeR cur w k hi m hi' e) : DocC w lo hi' cur es (k + 1) := by
  obtain ⟨r, ms, h1, h2, h3, h4⟩ := h
  obtain ⟨q, hq⟩ : ∃ q : Nat → Nat, q = fun i => if i < k then r i else if i = k then hi else hi' := ⟨_, rfl⟩
  have qlt : ∀ i, i < k → q i = r i := fun i hi => by rw [hq]; simp [hi]
  have qk : q k = hi := by rw [hq]; simp
  have qs : q (k + 1) = hi' := by rw [hq]; simp; omega
  have qn : ∀ i, i < k → r (i + 1) ≤ q (i + 1) := fun i hi => by
    by_cases h : i + 1 < k
    · rw [qlt _ h]; exact Nat.le_refl _
    · have e2 : i + 1 = k := by omega
      rw [e2, qk]; exact h2
  refine ⟨q, fun i => if i < k then ms i else m, ?_, by rw [qs]; exact Nat.le_refl _, ?_, ?_⟩
  · by_cases hk : 0 < k
    · rw [qlt 0 hk]; exact h1
    · have : k = 0 := by omega
      subst this
      rw [qk]; omega
  · intro i hi
    by_cases hk : i < k
    · have := h3 i hk
      have := qn i hk
      rw [qlt i hk]
      simp only [hk, if_true]
      omega
    · have e2 : i = k := by omega
      subst e2
      rw [qk, qs]
      simpa using hm
  · intro i x hi hx
    by_cases hk : i < k
    · rw [qlt i hk]
      simp only [hk, if_true]
      exact (h4 i x hk hx).mono (qn i hk)
    · have e2 : i = k := by omega
      subst e2
      rw [he] at hx
      obtain rfl := Option.some.inj hx
      rw [qk, qs]
      simpa using hn
theorem DocC.ge {w w' : World} {lo hi hi' : Nat} {cur : Array Value} {es : List D} {k : Nat} (h : DocC w lo hi cur es k) (hg : Ge w w') (hh : hi ≤ hi') : DocC w' lo hi' cur es k := by
  obtain ⟨r, m, h1, h2, h3, h4⟩ := h
  exact ⟨r, m, h1, by omega, h3, fun i e hi he => (h4 i e hi he).ge hg⟩
theorem DocC.lo_r {k : Nat} {r m : Nat → Nat} {lo : Nat} (h1 : lo ≤ r 0) (h3 : ∀ i, i < k → r i ≤ m i ∧ m i ≤ r (i + 1)) : ∀ i, i ≤ k → lo ≤ r i := by
  intro i
  induction i with
  | zero => intro _; exact h1
  | succ i ih => intro hi; have := ih (by omega); have := h3 i (by omega); omega
theorem DocC.gb {w w' : World} {lo hi : Nat} {cur : Array Value} {es : List D} {k A : Nat} (h : DocC w lo hi cur es k) (hg : w.grownBy w' (some A)) (hA : A < lo) : DocC w' lo hi cur es k := by
  obtain ⟨r, m, h1, h2, h3, h4⟩ := h
  exact ⟨r, m, h1, h2, h3, fun i e hi he => (h4 i e hi he).gb hg (by have := DocC.lo_r h1 h3 i (by omega); omega) (h3 i hi).1⟩
theorem DocC.cells {cur cur' : Array Value} {w : World} {lo hi : Nat} {es : List D} {k : Nat} (h : DocC w lo hi cur es k) (hc : ∀ j, j < k * 7 → cur'[j]? = cur[j]?) : DocC w lo hi cur' es k := by
  obtain ⟨r, m, h1, h2, h3, h4⟩ := h
  exact ⟨r, m, h1, h2, h3, fun i e hi he => (h4 i e hi he).cells (fun j hj => hc _ (by omega))⟩
end Go.Av
namespace Go.Av
open Go.Proofs Go.RowKit Go.Proofs.YtfhpckkldelkcaaDoor
variable [Ek]
theorem node_all {F : Nat → Nat → Prop} {w : World} {a : Option Addr} {vs : List Value} {es : List D} (hes : ∀ e ∈ es, isNode e = true) (hvl : vs.length = es.length * 7) (hsl : Sl w w.heap.size a vs)
    (hx : ∀ (i : Nat) (v : Value) (x : D), vs[i]? = some v → (flat es)[i]? = some x → Den0 F w v x) {i : Nat} (hi : i < es.length) :
    ∃ b off p k sp nm la ls tx x4 c4 x5 c5, a = some ⟨b, off, none⟩ ∧ b < w.heap.size ∧ es.getD i .bad = .agg [.int .i64 p, .int .i64 k, .str sp, .str nm, .list la, .list ls, .str tx] ∧
      (w.cell? ⟨b, off + i * 7, none⟩ = some (.int .i64 p) ∧ w.cell? ⟨b, off + i * 7 + 1, none⟩ = some (.int .i64 k) ∧ w.cell? ⟨b, off + i * 7 + 2, none⟩ = some (.string ⟨sp.toArray⟩) ∧ w.cell? ⟨b, off + i * 7 + 3, none⟩ = some (.string ⟨nm.toArray⟩) ∧
      w.cell? ⟨b, off + i * 7 + 4, none⟩ = some (.slice x4 la.length c4) ∧ w.cell? ⟨b, off + i * 7 + 5, none⟩ = some (.slice x5 ls.length c5) ∧ w.cell? ⟨b, off + i * 7 + 6, none⟩ = some (.string ⟨tx.toArray⟩)) ∧
      Den0 F w (.slice x4 la.length c4) (.list la) ∧ Den0 F w (.slice x5 ls.length c5) (.list ls) ∧ (∀ e ∈ la, (dcells e).length = 3) ∧ (∀ e ∈ ls, (dcells e).length = 1) ∧ la.length ≤ 1000000 ∧ ls.length ≤ 1000000 := by
  have hei : es[i]? = some es[i] := List.getElem?_eq_getElem hi
  have hgd : es.getD i .bad = es[i] := by simp [List.getD, hei]
  obtain ⟨p, k, sp, nm, la, ls, tx, he, h4, h5, h6, h7⟩ := isNode_inv (hes es[i] (List.getElem_mem hi))
  rw [he] at hei
  obtain ⟨b, off, ha, hb, hc⟩ := hsl (by intro e; rw [e] at hvl; simp at hvl; omega)
  have key : ∀ j (x : D), j < 7 → (dcells (.agg [.int .i64 p, .int .i64 k, .str sp, .str nm, .list la, .list ls, .str tx]))[j]? = some x → ∃ u, w.cell? ⟨b, off + i * 7 + j, none⟩ = some u ∧ Den0 F w u x := by
    intro j x hj hxj
    have f := flat_at (isNode_len hes) hei j hj
    rw [hxj] at f
    have l : i * 7 + j < vs.length := by omega
    refine ⟨vs[i * 7 + j], ?_, hx _ _ _ (List.getElem?_eq_getElem l) f⟩
    rw [Nat.add_assoc]
    exact hc _ l
  obtain ⟨u0, g0, e0⟩ := key 0 _ (by decide) rfl
  obtain ⟨u1, g1, e1⟩ := key 1 _ (by decide) rfl
  obtain ⟨u2, g2, e2⟩ := key 2 _ (by decide) rfl
  obtain ⟨u3, g3, e3⟩ := key 3 _ (by decide) rfl
  obtain ⟨u4, g4, e4⟩ := key 4 _ (by decide) rfl
  obtain ⟨u5, g5, e5⟩ := key 5 _ (by decide) rfl
  obtain ⟨u6, g6, e6⟩ := key 6 _ (by decide) rfl
  have s4 : ∃ x c, u4 = .slice x la.length c := by
    cases e4 with
    | list a n c sz es vs h1 h2 h3 h4 h5 h6 h7 => exact ⟨a, c, by rw [h1]⟩
  have s5 : ∃ x c, u5 = .slice x ls.length c := by
    cases e5 with
    | list a n c sz es vs h1 h2 h3 h4 h5 h6 h7 => exact ⟨a, c, by rw [h1]⟩
  obtain ⟨x4, c4, rfl⟩ := s4
  obtain ⟨x5, c5, rfl⟩ := s5
  cases e0; cases e1; cases e2; cases e3; cases e6
  exact ⟨b, off, p, k, sp, nm, la, ls, tx, x4, c4, x5, c5, ha, hb, hgd.trans he, ⟨g0, g1, g2, g3, g4, g5, g6⟩, e4, e5, h4, h5, h6, h7⟩
def datL (zs : List Int) : DataW Unit := if zs = [] then .nil else .slice (ChangeShapes.lits .i64 zs) []
end Go.Av
namespace Go.Av
open Go.Proofs Go.RowKit Go.Proofs.YtfhpckkldelkcaaDoor
variable [Ek]
def DocR (w : World) (lo hi : Nat) (u : Value) (es : List D) : Prop :=
  ∃ g c cur, u = .slice (some ⟨g, 0, none⟩) es.length c ∧ es.length ≤ c ∧ c ≤ maxLen ∧ lo ≤ g ∧ w.heap[g]? = some (.cells cur 28 (0, 0)) ∧ es.length * 7 ≤ cur.size ∧ DocC w (g + 1) hi cur es es.length
theorem whole_new (es : List D) (F : Nat → Nat → Prop) (w : World) (v : Value) (hlt : Lt F w) (hd : Den0 F w v (.list es)) (hpl : ∀ p k sp nm la ls tx, D.agg [.int .i64 p, .int .i64 k, .str sp, .str nm, .list la, .list ls, .str tx] ∈ es → (∀ x ∈ flat la, noPtr x = true) ∧ ∀ x ∈ flat ls, noPtr x = true) (hs : ∀ e ∈ es, isNode e = true) (hL : es.length ≤ 1000000) :
    Calls Tryd.prog 39 #[v] w (fun e w' => ∃ u, e = .returned u ∧ Ge w w' ∧ DocR w' w.heap.size w'.heap.size u es) := by
  obtain ⟨a, c, vs, rfl, hc, hvl, hsl, h1, hx⟩ := list_sl hlt hd (isNode_len hs)
  obtain ⟨n, HN⟩ : ∃ n, Hid (n = es.length) := ⟨_, rfl⟩
  rw [← HN.out] at hvl hc ⊢
  have hnL : n ≤ 1000000 := by rw [HN.out]; exact hL
  go_enter Tryd.func39, Tryd.ntmps39
  go_wp2_with (refine make_full _ rfl (.tmp 7) (.tmp 7) 24 rfl (.agg #[.int .i64 0, .int .i64 0, .string ⟨#[]⟩, .string ⟨#[]⟩, .slice none 0 0, .slice none 0 0, .string ⟨#[]⟩]) ei22 (by kernel_rfl) w.heap.size .i64 .i64 n rfl rfl (by omega) (by simp only [maxLen]; omega) (Nat.le_refl _) ?_; intro w1 ho1 hg1 hb1)
  obtain ⟨g, Hg⟩ : ∃ z, z = w.heap.size := ⟨_, rfl⟩
  have HR : ∃ cur, w1.heap[g]? = some (.cells cur 28 (0, 0)) ∧ cur.size = n * 7 ∧ DocC w1 (g + 1) w1.heap.size cur es 0 := by
    rcases ho1 with ⟨hl, ⟨h, _⟩ | ⟨g', cap, cur, hv, _, hh, hc', _, hcs, _⟩⟩
    · cases h
    · simp only [Value.slice.injEq, Option.some.injEq, Addr.mk.injEq] at hv
      obtain ⟨⟨h1', _⟩, _, h2'⟩ := hv
      have hg2 : g = g' := by rw [Hg]; exact h1'
      have hgl : g' < w1.heap.size := (Array.getElem?_eq_some_iff.1 hh).1
      refine ⟨cur, by rw [hg2]; exact hh, by rw [hcs, h2'], fun _ => g + 1, fun _ => g + 1, Nat.le_refl _, by show g + 1 ≤ _; omega, fun i h => absurd h (Nat.not_lt_zero i), fun i e h => absurd h (Nat.not_lt_zero i)⟩
  rw [← Hg] at ho1 ⊢
  have hb0 : Ge w w1 := hb1
  have HG := Lib.hid Hg
  clear Hg
  clear ho1 hg1 hb1
  go_loopw [11] (fun v wr => ∃ k : Nat, v = .int .i64 k ∧ k ≤ n ∧ Ge w wr ∧ ∃ cur, wr.heap[g]? = some (.cells cur 28 (0, 0)) ∧ cur.size = n * 7 ∧ DocC wr (g + 1) wr.heap.size cur es k) (fun v _ => n - (intOf v).toNat)
  case atStart => exact ⟨0, rfl, Nat.zero_le _, hb0, HR⟩
  case round =>
    obtain ⟨k, rfl, hle, hG, cur, hh, hcs, hD⟩ := hrel
    by_cases hk : k = n
    · subst hk
      go_wp2_with fail
      go_ret
      exact ⟨_, rfl, hG, g, k, cur, by rw [← HN.out]; rfl, by rw [← HN.out]; exact Nat.le_refl _, by simp only [maxLen]; omega, Nat.le_of_eq HG.out.symm, hh, by rw [← HN.out, hcs]; exact Nat.le_refl _, HN.out ▸ hD⟩
    · have hlt2 : k < n := by omega
      obtain ⟨b, off, p, kk, sp, nm, la, ls, tx, x4, c4, x5, c5, rfl, hbw, hei, ⟨q0, q1, q2, q3, q4, q5, q6⟩, d4, d5, s4, s5, l4, l5⟩ := node_all hs (by rw [← HN.out]; exact hvl) hsl hx (i := k) (by rw [← HN.out]; exact hlt2)
      have r0 := (hG.cell (p := ⟨b, off + k * 7, none⟩) hbw).trans q0
      have r1 := (hG.cell (p := ⟨b, off + k * 7 + 1, none⟩) hbw).trans q1
      have r2 := (hG.cell (p := ⟨b, off + k * 7 + 2, none⟩) hbw).trans q2
      have r3 := (hG.cell (p := ⟨b, off + k * 7 + 3, none⟩) hbw).trans q3
      have r4 := (hG.cell (p := ⟨b, off + k * 7 + 4, none⟩) hbw).trans q4
      have r5 := (hG.cell (p := ⟨b, off + k * 7 + 5, none⟩) hbw).trans q5
      have r6 := (hG.cell (p := ⟨b, off + k * 7 + 6, none⟩) hbw).trans q6
      clear q0 q1 q2 q3 q4 q5 q6
      have hmem : es.getD k .bad ∈ es := by
        have hk' : k < es.length := by rw [← HN.out]; exact hlt2
        have : es.getD k .bad = es[k] := by simp [List.getD, hk']
        rw [this]
        exact List.getElem_mem hk'
      obtain ⟨hp4, hp5⟩ := hpl _ _ _ _ _ _ _ (hei ▸ hmem)
      have hB0 : Bk wr g 28 cur := hh
      have hgl : g < wr.heap.size := (Array.getElem?_eq_some_iff.1 hh).1
      go_wp2_with (go_at_call 29; refine (copied_own p kk ⟨sp.toArray⟩ ⟨nm.toArray⟩ ⟨tx.toArray⟩ (.slice x4 la.length c4) (.slice x5 ls.length c5) la ls F _ (lt_ge hlt (Ge.tr hG ((Below.refl _ _).alloc (Nat.le_refl _) _))) hp4 hp5 (den_ge d4 hlt (Ge.tr hG ((Below.refl _ _).alloc (Nat.le_refl _) _))) (den_ge d5 hlt (Ge.tr hG ((Below.refl _ _).alloc (Nat.le_refl _) _))) s4 s5 (by omega) (by omega) rfl rfl).mono ?_; rintro e w2 ⟨u4, u5, m, vs4, vs5, rfl, hb2, hm, hm', o4, o5, rd4, rd5⟩; obtain ⟨A4, C4, rfl, _⟩ := id o4; obtain ⟨A5, C5, rfl, _⟩ := id o5; have B2 : Bk w2 g 28 cur := Bk.below (hB0.alloc _) hb2 (by simp; omega); have c0 := (B2.cell (k * 7)).trans (Array.getElem?_eq_getElem (by omega)); have c1 := (B2.cell (k * 7 + 1)).trans (Array.getElem?_eq_getElem (by omega)); have c2 := (B2.cell (k * 7 + 2)).trans (Array.getElem?_eq_getElem (by omega)); have c3 := (B2.cell (k * 7 + 3)).trans (Array.getElem?_eq_getElem (by omega)); have c4' := (B2.cell (k * 7 + 4)).trans (Array.getElem?_eq_getElem (by omega)); have c5' := (B2.cell (k * 7 + 5)).trans (Array.getElem?_eq_getElem (by omega)); have c6 := (B2.cell (k * 7 + 6)).trans (Array.getElem?_eq_getElem (by omega)); have f0 := B2.free (k * 7); have f1 := B2.free (k * 7 + 1); have f2 := B2.free (k * 7 + 2); have f3 := B2.free (k * 7 + 3); have f4 := B2.free (k * 7 + 4); have f5 := B2.free (k * 7 + 5); have f6 := B2.free (k * 7 + 6))
      have hgw : w.heap.size ≤ g := Nat.le_of_eq HG.out.symm
      have G2 : Ge w w2 := Ge.tr (Ge.tr hG ((Below.refl _ _).alloc (Nat.le_refl _) _)) hb2
      refine ⟨⟨k + 1, by simp, by omega, ge_put (ge_put (ge_put (ge_put (ge_put (ge_put (ge_put G2 hgw _) hgw _) hgw _) hgw _) hgw _) hgw _) hgw _, _, ((((((B2.put (k * 7) _).put (k * 7 + 1) _).put (k * 7 + 2) _).put (k * 7 + 3) _).put (k * 7 + 4) _).put (k * 7 + 5) _).put (k * 7 + 6) _, by simp [hcs], ?_⟩, ?_⟩
      · have hz : (((((((w2.setCell ⟨g, k * 7, none⟩ (.int .i64 p)).setCell ⟨g, k * 7 + 1, none⟩ (.int .i64 kk)).setCell ⟨g, k * 7 + 2, none⟩ (.string ⟨sp.toArray⟩)).setCell ⟨g, k * 7 + 3, none⟩ (.string ⟨nm.toArray⟩)).setCell ⟨g, k * 7 + 4, none⟩ (.slice A4 la.length C4)).setCell ⟨g, k * 7 + 5, none⟩ (.slice A5 ls.length C5)).setCell ⟨g, k * 7 + 6, none⟩ (.string ⟨tx.toArray⟩)).heap.size = w2.heap.size := by simp
        have GZ := grown_put (grown_put (grown_put (grown_put (grown_put (grown_put (grown_put (grown_refl w2 (some g)) (p := ⟨g, k * 7, none⟩) rfl (.int .i64 p)) (p := ⟨g, k * 7 + 1, none⟩) rfl (.int .i64 kk)) (p := ⟨g, k * 7 + 2, none⟩) rfl (.string ⟨sp.toArray⟩)) (p := ⟨g, k * 7 + 3, none⟩) rfl (.string ⟨nm.toArray⟩)) (p := ⟨g, k * 7 + 4, none⟩) rfl (.slice A4 la.length C4)) (p := ⟨g, k * 7 + 5, none⟩) rfl (.slice A5 ls.length C5)) (p := ⟨g, k * 7 + 6, none⟩) rfl (.string ⟨tx.toArray⟩)
        have hk' : k < es.length := by rw [← HN.out]; exact hlt2
        have hek : es[k]? = some (.agg [.int .i64 p, .int .i64 kk, .str sp, .str nm, .list la, .list ls, .str tx]) := by
          have : es.getD k .bad = es[k] := by simp [List.getD, hk']
          rw [List.getElem?_eq_getElem hk', ← this, hei]
        have D1 := ((hD.ge ((Below.refl _ _).alloc (Nat.le_refl _) _) (hi' := (wr.alloc (.cells #[.int .i64 p, .int .i64 kk, .string ⟨sp.toArray⟩, .string ⟨nm.toArray⟩, .slice x4 la.length c4, .slice x5 ls.length c5, .string ⟨tx.toArray⟩] 28)).heap.size) (by simp)).ge hb2 (Nat.le_refl _)).gb GZ (by omega)
        rw [hz]
        refine DocC.step (D1.cells ?_) hek ⟨hm, hm'⟩ ?_
        · intro j hj
          simp only [Array.getElem?_setIfInBounds]
          repeat rw [if_neg (by omega)]
        · refine ⟨p, kk, sp, nm, la, ls, tx, .slice A4 la.length C4, .slice A5 ls.length C5, vs4, vs5, rfl, ?_, o4.gb GZ (by simp; omega) (Nat.le_refl _) (Nat.le_refl _), o5.gb GZ (by simp at hm; omega) (Nat.le_refl _) (Nat.le_refl _), rd4, rd5⟩
          refine ⟨?_, ?_, ?_, ?_, ?_, ?_, ?_⟩ <;> (simp [Array.getElem?_setIfInBounds, hcs]; omega)
      · simp [intOf]; omega
end Go.Av
namespace Go.Av
open Go.Proofs Go.RowKit Go.Lib Go.Proofs.YtfhpckkldelkcaaDoor
variable [Ek]
theorem run_clear_el {P : Program} (w : World) (t e ty : TypeId) (z : Value) (zs : List Value) (ht : P.underlying t = some (.slice e)) (hv : ∀ w, (zeroValue e).run P w = .ok z w) (hz : z.cells = zs.toArray) (h1 : ∀ v ∈ zs, v.oneCell' = true) (b o c : Nat)
    (hc : ∀ j, j < zs.length → (w.cell? ⟨b, o + j, none⟩).isSome = true) (hf : ∀ j, j < zs.length → w.frozen? ⟨b, o + j, none⟩ = false) :
    (Builtin.clear_ #[t] ty #[.slice (some ⟨b, o, none⟩) 1 c]).run P w = .ok (.tuple #[]) (w.setCells b o zs) := by
  have hzc : (Builtin.zeroCells z.cells 1).toList = zs := by
    rw [hz]
    simp [Builtin.zeroCells]
    apply List.ext_getElem
    · simp
    · intro i h1 h2
      have h3 : i % zs.length = i := Nat.mod_eq_of_lt h2
      simp [h3, h2]
  have hst := run_storeCells_cells (P := P) b o zs 0 w (by simpa using hc) (by simpa using hf) h1
  simp only [Nat.add_zero] at hst
  simp [Builtin.clear_, run_underlying ht, hv, hzc, hst]
set_option maxHeartbeats 4000000 in
theorem del3_any (b off cap i j n : Nat) (cs : List Value) (w : World) (hn : cs.length = n * 3) (hc : ∀ k u, cs[k]? = some u → w.cell? ⟨b, off + k, none⟩ = some u ∧ w.frozen? ⟨b, off + k, none⟩ = false ∧ u.oneCell' = true) (hcap : n ≤ cap) (hm : cap ≤ 9223372036854775807) (hi : i < n) (hj : j = i + 1) :
    Calls Tryd.prog 57 #[.slice (some ⟨b, off, none⟩) n cap, .int .i64 i, .int .i64 (j : Nat)] w fun e w' => e = .returned (.slice (some ⟨b, off, none⟩) (n - 1) cap) ∧
      w' = (w.drew.setCells b (off + i * 3) (cs.drop (j * 3))).setCells b (off + (n - 1) * 3) [.string ⟨#[]⟩, .string ⟨#[]⟩, .string ⟨#[]⟩] := by
  obtain ⟨i0, _, t25, hi0, _, hz1, _⟩ := ei23
  obtain ⟨news, hnews⟩ : ∃ news, news = cs.drop (j * 3) := ⟨_, rfl⟩
  have hlen : news.length = (n - j) * 3 := by rw [hnews, List.length_drop, hn, Nat.sub_mul]
  obtain ⟨A, hA, hsrc⟩ : ∃ A : Addr, (if cap = j then some (⟨b, off, none⟩ : Addr) else some ⟨b, off + j * 3, none⟩) = some A ∧ Hid (∀ t u, news[t]? = some u → w.drew.cell? (A.add t) = some u) := by
    by_cases h : cap = j
    · refine ⟨⟨b, off, none⟩, by simp [h], fun t u hu => ?_⟩
      have h0 : news.length = 0 := by rw [hlen, show n - j = 0 by omega, Nat.zero_mul]
      rw [List.length_eq_zero_iff.1 h0] at hu
      simp at hu
    · refine ⟨⟨b, off + j * 3, none⟩, by simp [h], fun t u hu => ?_⟩
      rw [hnews, List.getElem?_drop] at hu
      rw [Addr.add_lit, Nat.add_assoc]
      exact (hc _ _ hu).1
  have s1 : Hid (news.length = (n - j) * 3) := hlen
  have s2 : Hid (∀ u ∈ news, u.oneCell' = true) := by
    intro u hu
    rw [hnews] at hu
    obtain ⟨k, hk⟩ := List.getElem?_of_mem hu
    rw [List.getElem?_drop] at hk
    exact (hc _ _ hk).2.2
  have s3 : Hid (∀ t, t < news.length → (w.drew.cell? ⟨b, off + i * 3 + t, none⟩).isSome = true ∧ w.drew.frozen? ⟨b, off + i * 3 + t, none⟩ = false) := by
    intro t ht
    rw [hlen] at ht
    subst hj
    rw [Nat.add_assoc]
    have hk : i * 3 + t < cs.length := by omega
    obtain ⟨h1, h2, _⟩ := hc (i * 3 + t) _ (List.getElem?_eq_getElem hk)
    exact ⟨by show (w.cell? _).isSome = true; rw [h1]; rfl, h2⟩
  obtain ⟨W1, hW1⟩ : ∃ W1, W1 = w.drew.setCells b (off + i * 3) news := ⟨_, rfl⟩
  have hW : Hid (W1 = w.drew.setCells b (off + i * 3) news) := hW1
  have hcl : ∀ ty, (Builtin.clear_ #[25] ty #[.slice (some ⟨b, off + (i + (n - j)) * 3, none⟩) (n - (i + (n - j))) (cap - (i + (n - j)))]).run Tryd.prog W1 = .ok (.tuple #[]) (W1.setCells b (off + (i + (n - j)) * 3) [.string ⟨#[]⟩, .string ⟨#[]⟩, .string ⟨#[]⟩]) := by
    intro ty
    rw [show n - (i + (n - j)) = 1 by omega]
    have hcell : ∀ k, k < 3 → (W1.cell? ⟨b, off + (i + (n - j)) * 3 + k, none⟩).isSome = true ∧ W1.frozen? ⟨b, off + (i + (n - j)) * 3 + k, none⟩ = false := by
      intro k hk
      have hk' : (i + (n - j)) * 3 + k < cs.length := by omega
      obtain ⟨q1, q2, _⟩ := hc _ _ (List.getElem?_eq_getElem hk')
      rw [Nat.add_assoc]
      refine ⟨?_, ?_⟩
      · rw [hW1]
        exact isSome_setCells b news _ w.drew _ (by show (w.cell? _).isSome = true; rw [q1]; rfl)
      · rw [hW1, World.frozen?_setCells]
        exact q2
    exact run_clear_el W1 25 54 ty (.agg #[.string ⟨#[]⟩, .string ⟨#[]⟩, .string ⟨#[]⟩]) [.string ⟨#[]⟩, .string ⟨#[]⟩, .string ⟨#[]⟩] t25 (fun w => by kernel_rfl) rfl (by simp [Value.oneCell']) b _ _ (fun k hk => (hcell k hk).1) (fun k hk => (hcell k hk).2)
  have hcn : ¬ cap = i + (n - j) := by omega
  have hic : i ≤ cap := by omega
  have hjc : j ≤ cap := by omega
  have hjn : j ≤ n := by omega
  have hin : i ≤ n := by omega
  have hij : i ≤ j := by omega
  have heq : ((i : Int) == (j : Int)) = false := beq_false_of_ne (by omega)
  have hni : ¬ n = i := by omega
  have hJ : Hid (j = i + 1) := hj
  have hI : Hid (i < n) := hi
  have hWW : Hid (W1 = w.drew.setCells b (off + i * 3) news) := hW1
  have hN : Hid (news = cs.drop (j * 3)) := hnews
  clear hj hi hW1 hnews hlen hc hn
  go_enter Tryd.func57, Tryd.ntmps57
  go_wp2_with fail
  go_region_law (refine step_append_room rfl (.tmp 22) (.tmp 25) 25 rfl 54 i0 3 t25 hi0 hz1 b off i cap (by simp [Act.eval, Act.put]) A (n - j) (cap - j) news (by simp [Act.eval, Act.put]) s1.out hsrc.out s2.out (by omega) s3.out ?_; rw [← hW.out])
  go_wp2
  go_ret
  have e1 : i + (n - j) = n - 1 := by have := hJ.out; have := hI.out; omega
  refine ⟨by rw [e1]; rfl, ?_⟩
  rw [hW.out, hN.out, e1]
end Go.Av
namespace Go.Av
open Go.Proofs Go.RowKit Go.Lib Go.Proofs.YtfhpckkldelkcaaDoor
variable [Ek]
set_option maxHeartbeats 4000000 in
theorem del7_any (b off cap i j n : Nat) (cs : List Value) (w : World) (hn : cs.length = n * 7) (hc : ∀ k u, cs[k]? = some u → w.cell? ⟨b, off + k, none⟩ = some u ∧ w.frozen? ⟨b, off + k, none⟩ = false ∧ u.oneCell' = true) (hcap : n ≤ cap) (hm : cap ≤ 9223372036854775807) (hi : i < n) (hj : j = i + 1) :
    Calls Tryd.prog 51 #[.slice (some ⟨b, off, none⟩) n cap, .int .i64 i, .int .i64 (j : Nat)] w fun e w' => e = .returned (.slice (some ⟨b, off, none⟩) (n - 1) cap) ∧
      w' = (w.drew.setCells b (off + i * 7) (cs.drop (j * 7))).setCells b (off + (n - 1) * 7) [.int .i64 0, .int .i64 0, .string ⟨#[]⟩, .string ⟨#[]⟩, .slice none 0 0, .slice none 0 0, .string ⟨#[]⟩] := by
  obtain ⟨i0, _, tT, hi0, _, hz1, _⟩ := ei22
  obtain ⟨news, hnews⟩ : ∃ news, news = cs.drop (j * 7) := ⟨_, rfl⟩
  have hlen : news.length = (n - j) * 7 := by rw [hnews, List.length_drop, hn, Nat.sub_mul]
  obtain ⟨A, hA, hsrc⟩ : ∃ A : Addr, (if cap = j then some (⟨b, off, none⟩ : Addr) else some ⟨b, off + j * 7, none⟩) = some A ∧ Hid (∀ t u, news[t]? = some u → w.drew.cell? (A.add t) = some u) := by
    by_cases h : cap = j
    · refine ⟨⟨b, off, none⟩, by simp [h], fun t u hu => ?_⟩
      have h0 : news.length = 0 := by rw [hlen, show n - j = 0 by omega, Nat.zero_mul]
      rw [List.length_eq_zero_iff.1 h0] at hu
      simp at hu
    · refine ⟨⟨b, off + j * 7, none⟩, by simp [h], fun t u hu => ?_⟩
      rw [hnews, List.getElem?_drop] at hu
      rw [Addr.add_lit, Nat.add_assoc]
      exact (hc _ _ hu).1
  have s1 : Hid (news.length = (n - j) * 7) := hlen
  have s2 : Hid (∀ u ∈ news, u.oneCell' = true) := by
    intro u hu
    rw [hnews] at hu
    obtain ⟨k, hk⟩ := List.getElem?_of_mem hu
    rw [List.getElem?_drop] at hk
    exact (hc _ _ hk).2.2
  have s3 : Hid (∀ t, t < news.length → (w.drew.cell? ⟨b, off + i * 7 + t, none⟩).isSome = true ∧ w.drew.frozen? ⟨b, off + i * 7 + t, none⟩ = false) := by
    intro t ht
    rw [hlen] at ht
    subst hj
    rw [Nat.add_assoc]
    have hk : i * 7 + t < cs.length := by omega
    obtain ⟨h1, h2, _⟩ := hc (i * 7 + t) _ (List.getElem?_eq_getElem hk)
    exact ⟨by show (w.cell? _).isSome = true; rw [h1]; rfl, h2⟩
  obtain ⟨W1, hW1⟩ : ∃ W1, W1 = w.drew.setCells b (off + i * 7) news := ⟨_, rfl⟩
  have hW : Hid (W1 = w.drew.setCells b (off + i * 7) news) := hW1
  have hcl : ∀ ty, (Builtin.clear_ #[24] ty #[.slice (some ⟨b, off + (i + (n - j)) * 7, none⟩) (n - (i + (n - j))) (cap - (i + (n - j)))]).run Tryd.prog W1 = .ok (.tuple #[]) (W1.setCells b (off + (i + (n - j)) * 7) [.int .i64 0, .int .i64 0, .string ⟨#[]⟩, .string ⟨#[]⟩, .slice none 0 0, .slice none 0 0, .string ⟨#[]⟩]) := by
    intro ty
    rw [show n - (i + (n - j)) = 1 by omega]
    have hcell : ∀ k, k < 7 → (W1.cell? ⟨b, off + (i + (n - j)) * 7 + k, none⟩).isSome = true ∧ W1.frozen? ⟨b, off + (i + (n - j)) * 7 + k, none⟩ = false := by
      intro k hk
      have hk' : (i + (n - j)) * 7 + k < cs.length := by omega
      obtain ⟨q1, q2, _⟩ := hc _ _ (List.getElem?_eq_getElem hk')
      rw [Nat.add_assoc]
      refine ⟨?_, ?_⟩
      · rw [hW1]
        exact isSome_setCells b news _ w.drew _ (by show (w.cell? _).isSome = true; rw [q1]; rfl)
      · rw [hW1, World.frozen?_setCells]
        exact q2
    exact run_clear_el W1 24 28 ty (.agg #[.int .i64 0, .int .i64 0, .string ⟨#[]⟩, .string ⟨#[]⟩, .slice none 0 0, .slice none 0 0, .string ⟨#[]⟩]) [.int .i64 0, .int .i64 0, .string ⟨#[]⟩, .string ⟨#[]⟩, .slice none 0 0, .slice none 0 0, .string ⟨#[]⟩] tT (fun w => by kernel_rfl) rfl (by simp [Value.oneCell']) b _ _ (fun k hk => (hcell k hk).1) (fun k hk => (hcell k hk).2)
  have hcn : ¬ cap = i + (n - j) := by omega
  have hic : i ≤ cap := by omega
  have hjc : j ≤ cap := by omega
  have hjn : j ≤ n := by omega
  have hin : i ≤ n := by omega
  have hij : i ≤ j := by omega
  have heq : ((i : Int) == (j : Int)) = false := beq_false_of_ne (by omega)
  have hni : ¬ n = i := by omega
  have hJ : Hid (j = i + 1) := hj
  have hI : Hid (i < n) := hi
  have hWW : Hid (W1 = w.drew.setCells b (off + i * 7) news) := hW1
  have hN : Hid (news = cs.drop (j * 7)) := hnews
  clear hj hi hW1 hnews hlen hc hn
  go_enter Tryd.func51, Tryd.ntmps51
  go_wp2_with fail
  go_region_law (refine step_append_room rfl (.tmp 22) (.tmp 25) 24 rfl 28 i0 7 tT hi0 hz1 b off i cap (by simp [Act.eval, Act.put]) A (n - j) (cap - j) news (by simp [Act.eval, Act.put]) s1.out hsrc.out s2.out (by omega) s3.out ?_; rw [← hW.out])
  go_wp2
  go_ret
  have e1 : i + (n - j) = n - 1 := by have := hJ.out; have := hI.out; omega
  refine ⟨by rw [e1]; rfl, ?_⟩
  rw [hW.out, hN.out, e1]
end Go.Av
namespace Go.Av
open Go.Proofs Go.RowKit Go.Lib Go.Proofs.YtfhpckkldelkcaaDoor
variable [Ek]
set_option maxHeartbeats 4000000 in
theorem del1_any (b off cap i j n : Nat) (cs : List Value) (w : World) (hn : cs.length = n) (hc : ∀ k u, cs[k]? = some u → w.cell? ⟨b, off + k, none⟩ = some u ∧ w.frozen? ⟨b, off + k, none⟩ = false ∧ u.oneCell' = true) (hcap : n ≤ cap) (hm : cap ≤ 9223372036854775807) (hi : i < n) (hj : j = i + 1) :
    Calls Tryd.prog 58 #[.slice (some ⟨b, off, none⟩) n cap, .int .i64 i, .int .i64 (j : Nat)] w fun e w' => e = .returned (.slice (some ⟨b, off, none⟩) (n - 1) cap) ∧
      w' = (w.drew.setCells b (off + i) (cs.drop (j))).setCells b (off + (n - 1)) [.string ⟨#[]⟩] := by
  obtain ⟨i0, _, tT, hi0, _, hz1, _⟩ := ei24
  obtain ⟨news, hnews⟩ : ∃ news, news = cs.drop (j) := ⟨_, rfl⟩
  have hlen : news.length = (n - j) := by rw [hnews, List.length_drop, hn]
  obtain ⟨A, hA, hsrc⟩ : ∃ A : Addr, (if cap = j then some (⟨b, off, none⟩ : Addr) else some ⟨b, off + j, none⟩) = some A ∧ Hid (∀ t u, news[t]? = some u → w.drew.cell? (A.add t) = some u) := by
    by_cases h : cap = j
    · refine ⟨⟨b, off, none⟩, by simp [h], fun t u hu => ?_⟩
      have h0 : news.length = 0 := by rw [hlen]; omega
      rw [List.length_eq_zero_iff.1 h0] at hu
      simp at hu
    · refine ⟨⟨b, off + j, none⟩, by simp [h], fun t u hu => ?_⟩
      rw [hnews, List.getElem?_drop] at hu
      rw [Addr.add_lit, Nat.add_assoc]
      exact (hc _ _ hu).1
  have s1 : Hid (news.length = (n - j)) := hlen
  have s2 : Hid (∀ u ∈ news, u.oneCell' = true) := by
    intro u hu
    rw [hnews] at hu
    obtain ⟨k, hk⟩ := List.getElem?_of_mem hu
    rw [List.getElem?_drop] at hk
    exact (hc _ _ hk).2.2
  have s3 : Hid (∀ t, t < news.length → (w.drew.cell? ⟨b, off + i + t, none⟩).isSome = true ∧ w.drew.frozen? ⟨b, off + i + t, none⟩ = false) := by
    intro t ht
    rw [hlen] at ht
    subst hj
    rw [Nat.add_assoc]
    have hk : i + t < cs.length := by omega
    obtain ⟨h1, h2, _⟩ := hc (i + t) _ (List.getElem?_eq_getElem hk)
    exact ⟨by show (w.cell? _).isSome = true; rw [h1]; rfl, h2⟩
  obtain ⟨W1, hW1⟩ : ∃ W1, W1 = w.drew.setCells b (off + i) news := ⟨_, rfl⟩
  have hW : Hid (W1 = w.drew.setCells b (off + i) news) := hW1
  have hcl : ∀ ty, (Builtin.clear_ #[26] ty #[.slice (some ⟨b, off + (i + (n - j)), none⟩) (n - (i + (n - j))) (cap - (i + (n - j)))]).run Tryd.prog W1 = .ok (.tuple #[]) (W1.setCells b (off + (i + (n - j))) [.string ⟨#[]⟩]) := by
    intro ty
    rw [show n - (i + (n - j)) = 1 by omega]
    have hcell : ∀ k, k < 1 → (W1.cell? ⟨b, off + (i + (n - j)) + k, none⟩).isSome = true ∧ W1.frozen? ⟨b, off + (i + (n - j)) + k, none⟩ = false := by
      intro k hk
      have hk' : (i + (n - j)) + k < cs.length := by omega
      obtain ⟨q1, q2, _⟩ := hc _ _ (List.getElem?_eq_getElem hk')
      rw [Nat.add_assoc]
      refine ⟨?_, ?_⟩
      · rw [hW1]
        exact isSome_setCells b news _ w.drew _ (by show (w.cell? _).isSome = true; rw [q1]; rfl)
      · rw [hW1, World.frozen?_setCells]
        exact q2
    exact run_clear_el W1 26 9 ty (.string ⟨#[]⟩) [.string ⟨#[]⟩] tT (fun w => by kernel_rfl) rfl (by simp [Value.oneCell']) b _ _ (fun k hk => (hcell k hk).1) (fun k hk => (hcell k hk).2)
  have hcn : ¬ cap = i + (n - j) := by omega
  have hic : i ≤ cap := by omega
  have hjc : j ≤ cap := by omega
  have hjn : j ≤ n := by omega
  have hin : i ≤ n := by omega
  have hij : i ≤ j := by omega
  have heq : ((i : Int) == (j : Int)) = false := beq_false_of_ne (by omega)
  have hni : ¬ n = i := by omega
  have hJ : Hid (j = i + 1) := hj
  have hI : Hid (i < n) := hi
  have hWW : Hid (W1 = w.drew.setCells b (off + i) news) := hW1
  have hN : Hid (news = cs.drop (j)) := hnews
  clear hj hi hW1 hnews hlen hc hn
  go_enter Tryd.func58, Tryd.ntmps58
  go_wp2_with fail
  go_region_law (refine step_append_room rfl (.tmp 22) (.tmp 25) 26 rfl 9 i0 1 tT hi0 hz1 b off i cap (by simp [Act.eval, Act.put]) A (n - j) (cap - j) news (by simp [Act.eval, Act.put]) (by rw [Nat.mul_one]; exact s1.out) hsrc.out s2.out (by omega) (by rw [Nat.mul_one]; exact s3.out) ?_; rw [Nat.mul_one, ← hW.out])
  go_wp2
  go_ret
  have e1 : i + (n - j) = n - 1 := by have := hJ.out; have := hI.out; omega
  refine ⟨by rw [e1]; rfl, ?_⟩
  rw [hW.out, hN.out, e1]
end Go.Av
namespace Go.Av
open Go.Proofs Go.RowKit Go.Proofs.YtfhpckkldelkcaaDoor
variable [Ek]
theorem bk_puts {g : Nat} {t : TypeId} : ∀ (vs : List Value) (o : Nat) {w : World} {cs : Array Value}, Bk w g t cs →
    ∃ cs', Bk (w.setCells g o vs) g t cs' ∧ cs'.size = cs.size ∧ w.grownBy (w.setCells g o vs) (some g) ∧ (w.setCells g o vs).heap.size = w.heap.size ∧
      ∀ j, j < cs.size → cs'[j]? = if o ≤ j ∧ j < o + vs.length then vs[j - o]? else cs[j]?
  | [], o, w, cs, h => ⟨cs, h, rfl, grown_refl _ _, rfl, fun j hj => by simp; omega⟩
  | v :: vs, o, w, cs, h => by
    obtain ⟨cs', h1, h2, h3, h4, h5⟩ := bk_puts vs (o + 1) (h.put o v)
    have hg := grown_put (grown_refl w (some g)) (p := ⟨g, o, none⟩) rfl v
    refine ⟨cs', h1, by rw [h2]; simp, ⟨h3.os.trans hg.os, h3.tape.trans hg.tape, h3.output.trans hg.output, Nat.le_trans hg.size h3.size, fun k hk hn => (h3.block k (Nat.lt_of_lt_of_le hk hg.size) hn).trans (hg.block k hk hn)⟩, by show ((w.setCell ⟨g, o, none⟩ v).setCells g (o + 1) vs).heap.size = _; rw [h4]; simp, fun j hj => ?_⟩
    rw [h5 j (by simpa using hj)]
    by_cases h6 : o + 1 ≤ j ∧ j < o + 1 + vs.length
    · have h7 : o ≤ j ∧ j < o + (v :: vs).length := ⟨by omega, by simp; omega⟩
      rw [if_pos h6, if_pos h7, show j - o = (j - (o + 1)) + 1 by omega]
      rfl
    · rw [if_neg h6]
      by_cases h8 : j = o
      · subst h8
        rw [if_pos ⟨Nat.le_refl _, by simp⟩, Array.getElem?_setIfInBounds]
        simp [hj]
      · have h7 : ¬ (o ≤ j ∧ j < o + (v :: vs).length) := by
          rintro ⟨a, b⟩
          simp at b
          omega
        rw [if_neg h7, Array.getElem?_setIfInBounds, if_neg (by omega)]
def cutC (sz i : Nat) (xs : List Value) : List Value := xs.take (i * sz) ++ xs.drop ((i + 1) * sz)
theorem cutC_len {sz i n : Nat} {xs : List Value} (h : xs.length = n * sz) (hi : i < n) : (cutC sz i xs).length = (n - 1) * sz := by
  obtain ⟨k, rfl⟩ : ∃ k, n = i + 1 + k := ⟨n - (i + 1), by omega⟩
  have e : (i + 1 + k - 1) * sz = i * sz + k * sz := by rw [← Nat.add_mul]; congr 1; omega
  simp only [cutC, List.length_append, List.length_take, List.length_drop, h, e]
  have e1 : (i + 1 + k) * sz = i * sz + sz + k * sz := by rw [Nat.add_mul, Nat.add_mul, Nat.one_mul]
  have e2 : (i + 1) * sz = i * sz + sz := by rw [Nat.add_mul, Nat.one_mul]
  omega
theorem del_left {w : World} {b i n sz : Nat} {t : TypeId} {cur : Array Value} {xs zs : List Value} (h : Bk w b t cur) (hx : xs.length = n * sz) (hc : n * sz ≤ cur.size) (ht : cur.toList.take (n * sz) = xs) (hi : i < n) (hz : zs.length = sz) :
    ∃ cur', Bk ((w.drew.setCells b (0 + i * sz) (xs.drop ((i + 1) * sz))).setCells b (0 + (n - 1) * sz) zs) b t cur' ∧ cur'.size = cur.size ∧ w.grownBy ((w.drew.setCells b (0 + i * sz) (xs.drop ((i + 1) * sz))).setCells b (0 + (n - 1) * sz) zs) (some b) ∧
      ((w.drew.setCells b (0 + i * sz) (xs.drop ((i + 1) * sz))).setCells b (0 + (n - 1) * sz) zs).heap.size = w.heap.size ∧ cur'.toList.take ((n - 1) * sz) = cutC sz i xs := by
  obtain ⟨c1, a1, a2, a3, a4, a5⟩ := bk_puts (xs.drop ((i + 1) * sz)) (0 + i * sz) (w := w.drew) h
  obtain ⟨c2, b1, b2, b3, b4, b5⟩ := bk_puts zs (0 + (n - 1) * sz) a1
  refine ⟨c2, b1, b2.trans a2, ⟨b3.os.trans a3.os, b3.tape.trans a3.tape, b3.output.trans a3.output, Nat.le_trans a3.size b3.size, fun k hk hn => (b3.block k (Nat.lt_of_lt_of_le hk a3.size) hn).trans (a3.block k hk hn)⟩, b4.trans a4, ?_⟩
  have hl := cutC_len hx hi
  obtain ⟨k, rfl⟩ : ∃ k, n = i + 1 + k := ⟨n - (i + 1), by omega⟩
  have e : (i + 1 + k - 1) * sz = i * sz + k * sz := by rw [← Nat.add_mul]; congr 1; omega
  have e1 : (i + 1 + k) * sz = i * sz + sz + k * sz := by rw [Nat.add_mul, Nat.add_mul, Nat.one_mul]
  have e2 : (i + 1) * sz = i * sz + sz := by rw [Nat.add_mul, Nat.one_mul]
  rw [e] at hl b5 ⊢
  rw [e1] at hx hc ht
  rw [e2] at a5
  apply List.ext_getElem?
  intro j
  by_cases hj : j < i * sz + k * sz
  · have hj' : j < cur.size := by omega
    rw [List.getElem?_take, if_pos hj, Array.getElem?_toList, b5 j (by omega), if_neg (by omega), a5 j hj']
    have hcur : ∀ m, m < i * sz + sz + k * sz → cur[m]? = xs[m]? := fun m hm => by
      rw [← ht, List.getElem?_take, if_pos hm, Array.getElem?_toList]
    unfold cutC
    rw [e2]
    by_cases h6 : j < i * sz
    · rw [if_neg (by omega), List.getElem?_append_left (by simp; omega), List.getElem?_take, if_pos h6]
      exact hcur j (by omega)
    · rw [if_pos ⟨by omega, by simp; omega⟩, List.getElem?_append_right (by simp; omega)]
      congr 1
      simp
      omega
  · rw [List.getElem?_eq_none (by simp; omega), List.getElem?_eq_none (by omega)]
end Go.Av
namespace Go.Av
open Go.Proofs Go.RowKit Go.Proofs.YtfhpckkldelkcaaDoor
variable [Ek]
theorem OwnG.out {w w' : World} {lo lo' hi hi' n sz A : Nat} {e : TypeId} {v : Value} {xs : List Value} (h : OwnG w lo hi e sz v n xs) (hg : w.grownBy w' (some A)) (hA : A < lo ∨ hi ≤ A) (hl : lo' ≤ lo) (hh : hi ≤ hi') : OwnG w' lo' hi' e sz v n xs := by
  obtain ⟨a, c, rfl, hc, hx, h | ⟨g, cur, rfl, h1, h2, h3, h4, h5, h6⟩⟩ := h
  · exact ⟨a, c, rfl, hc, hx, .inl h⟩
  · exact ⟨_, c, rfl, hc, hx, .inr ⟨g, cur, rfl, Nat.le_trans hl h1, Nat.lt_of_lt_of_le h2 hh, Nat.lt_of_lt_of_le h3 hg.size, (hg.block g h3 (fun e => by injection e with e; omega)).trans h4, h5, h6⟩⟩
theorem NodeR.out {cur : Array Value} {w w' : World} {i a m b A : Nat} {e : D} (h : NodeR cur w i a m b e) (hg : w.grownBy w' (some A)) (hA : A < a ∨ b ≤ A) (hm : a ≤ m) (hb : m ≤ b) : NodeR cur w' i a m b e := by
  obtain ⟨p, k, sp, nm, la, ls, tx, u4, u5, vs4, vs5, he, hc, h4, h5, r4, r5⟩ := h
  exact ⟨p, k, sp, nm, la, ls, tx, u4, u5, vs4, vs5, he, hc, h4.out hg (by omega) (Nat.le_refl _) (Nat.le_refl _), h5.out hg (by omega) (Nat.le_refl _) (Nat.le_refl _), r4, r5⟩
theorem r_mono {k : Nat} {r m : Nat → Nat} (h3 : ∀ i, i < k → r i ≤ m i ∧ m i ≤ r (i + 1)) : ∀ d i, i + d ≤ k → r i ≤ r (i + d) := by
  intro d
  induction d with
  | zero => intro i _; exact Nat.le_refl _
  | succ d ih => intro i hi; have := ih i (by omega); have := h3 (i + d) (by omega); rw [show i + (d + 1) = i + d + 1 by omega]; omega
theorem r_mono' {k : Nat} {r m : Nat → Nat} (h3 : ∀ i, i < k → r i ≤ m i ∧ m i ≤ r (i + 1)) {i j : Nat} (h : i ≤ j) (hj : j ≤ k) : r i ≤ r j := by
  have := r_mono h3 (j - i) i (by omega)
  rwa [show i + (j - i) = j by omega] at this
theorem DocC.setA {w : World} {lo hi k i : Nat} {cur : Array Value} {es : List D} {p kk : Int} {sp nm tx : List UInt8} {la ls : List D} (h : DocC w lo hi cur es k) (hik : i < k) (he : es[i]? = some (.agg [.int .i64 p, .int .i64 kk, .str sp, .str nm, .list la, .list ls, .str tx])) :
    ∃ a m u4 vs4, lo ≤ a ∧ m ≤ hi ∧ cur[i * 7 + 4]? = some u4 ∧ OwnG w a m 54 3 u4 la.length vs4 ∧ Rd vs4 la ∧
      ∀ (w' : World) (u4' : Value) (la' : List D) (vs4' : List Value) (A : Nat) (cur' : Array Value), w.grownBy w' (some A) → a ≤ A → A < m → OwnG w' a m 54 3 u4' la'.length vs4' → Rd vs4' la' → (∀ j, j ≠ i * 7 + 4 → cur'[j]? = cur[j]?) → cur'[i * 7 + 4]? = some u4' →
        DocC w' lo hi cur' (es.set i (.agg [.int .i64 p, .int .i64 kk, .str sp, .str nm, .list la', .list ls, .str tx])) k := by
  obtain ⟨r, m, h1, h2, h3, h4⟩ := h
  have hlo := DocC.lo_r h1 h3 i (by omega)
  obtain ⟨p0, k0, sp0, nm0, la0, ls0, tx0, u4, u5, vs4, vs5, e0, ⟨c0, c1, c2, c3, c4, c5, c6⟩, o4, o5, r4, r5⟩ := h4 i _ hik he
  simp only [D.agg.injEq, List.cons.injEq, D.int.injEq, D.str.injEq, D.list.injEq, and_true, true_and] at e0
  obtain ⟨rfl, rfl, rfl, rfl, rfl, rfl, rfl⟩ := e0
  have hr1 := r_mono' h3 (i := i + 1) (j := k) (by omega) (Nat.le_refl _)
  have hm := h3 i hik
  refine ⟨r i, m i, u4, vs4, hlo, by omega, c4, o4, r4, fun w' u4' la' vs4' A cur' hg hA1 hA2 o4' r4' hc hc4 => ⟨r, m, h1, h2, h3, fun j x hj hx => ?_⟩⟩
  by_cases hji : j = i
  · subst hji
    have hjl := (List.getElem?_eq_some_iff.1 he).1
    rw [List.getElem?_set_self hjl] at hx
    obtain rfl := Option.some.inj hx
    exact ⟨_, _, _, _, la', _, _, u4', u5, vs4', vs5, rfl, ⟨(hc _ (by omega)).trans c0, (hc _ (by omega)).trans c1, (hc _ (by omega)).trans c2, (hc _ (by omega)).trans c3, hc4, (hc _ (by omega)).trans c5, (hc _ (by omega)).trans c6⟩, o4', o5.out hg (by omega) (Nat.le_refl _) (Nat.le_refl _), r4', r5⟩
  · rw [List.getElem?_set_ne (fun e => hji e.symm)] at hx
    have hmj := h3 j hj
    refine ((h4 j x hj hx).out hg ?_ hmj.1 hmj.2).cells (fun t ht => hc _ (by omega))
    by_cases hlt : j < i
    · have := r_mono' h3 (i := j + 1) (j := i) (by omega) (by omega)
      omega
    · have := r_mono' h3 (i := i + 1) (j := j) (by omega) (by omega)
      omega
theorem DocC.setS {w : World} {lo hi k i : Nat} {cur : Array Value} {es : List D} {p kk : Int} {sp nm tx : List UInt8} {la ls : List D} (h : DocC w lo hi cur es k) (hik : i < k) (he : es[i]? = some (.agg [.int .i64 p, .int .i64 kk, .str sp, .str nm, .list la, .list ls, .str tx])) :
    ∃ a m u5 vs5, lo ≤ a ∧ m ≤ hi ∧ cur[i * 7 + 5]? = some u5 ∧ OwnG w a m 9 1 u5 ls.length vs5 ∧ Rd vs5 ls ∧
      ∀ (w' : World) (u5' : Value) (ls' : List D) (vs5' : List Value) (A : Nat) (cur' : Array Value), w.grownBy w' (some A) → a ≤ A → A < m → OwnG w' a m 9 1 u5' ls'.length vs5' → Rd vs5' ls' → (∀ j, j ≠ i * 7 + 5 → cur'[j]? = cur[j]?) → cur'[i * 7 + 5]? = some u5' →
        DocC w' lo hi cur' (es.set i (.agg [.int .i64 p, .int .i64 kk, .str sp, .str nm, .list la, .list ls', .str tx])) k := by
  obtain ⟨r, m, h1, h2, h3, h4⟩ := h
  have hlo := DocC.lo_r h1 h3 i (by omega)
  obtain ⟨p0, k0, sp0, nm0, la0, ls0, tx0, u4, u5, vs4, vs5, e0, ⟨c0, c1, c2, c3, c4, c5, c6⟩, o4, o5, r4, r5⟩ := h4 i _ hik he
  simp only [D.agg.injEq, List.cons.injEq, D.int.injEq, D.str.injEq, D.list.injEq, and_true, true_and] at e0
  obtain ⟨rfl, rfl, rfl, rfl, rfl, rfl, rfl⟩ := e0
  have hr1 := r_mono' h3 (i := i + 1) (j := k) (by omega) (Nat.le_refl _)
  have hm := h3 i hik
  refine ⟨m i, r (i + 1), u5, vs5, by omega, by omega, c5, o5, r5, fun w' u5' ls' vs5' A cur' hg hA1 hA2 o5' r5' hc hc5 => ⟨r, m, h1, h2, h3, fun j x hj hx => ?_⟩⟩
  by_cases hji : j = i
  · subst hji
    have hjl := (List.getElem?_eq_some_iff.1 he).1
    rw [List.getElem?_set_self hjl] at hx
    obtain rfl := Option.some.inj hx
    exact ⟨_, _, _, _, _, ls', _, u4, u5', vs4, vs5', rfl, ⟨(hc _ (by omega)).trans c0, (hc _ (by omega)).trans c1, (hc _ (by omega)).trans c2, (hc _ (by omega)).trans c3, (hc _ (by omega)).trans c4, hc5, (hc _ (by omega)).trans c6⟩, o4.out hg (by omega) (Nat.le_refl _) (Nat.le_refl _), o5', r4, r5'⟩
  · rw [List.getElem?_set_ne (fun e => hji e.symm)] at hx
    have hmj := h3 j hj
    refine ((h4 j x hj hx).out hg ?_ hmj.1 hmj.2).cells (fun t ht => hc _ (by omega))
    by_cases hlt : j < i
    · have := r_mono' h3 (i := j + 1) (j := i) (by omega) (by omega)
      omega
    · have := r_mono' h3 (i := i + 1) (j := j) (by omega) (by omega)
      omega
theorem OwnG.del3 {w : World} {lo hi c n i : Nat} {A : Option Addr} {xs : List Value} (h : OwnG w lo hi 54 3 (.slice A n c) n xs) (h1 : ∀ x ∈ xs, x.oneCell' = true) (hi' : i < n) (j : Int) (hj : j = ((i + 1 : Nat) : Int)) :
    Calls Tryd.prog 57 #[.slice A n c, .int .i64 i, .int .i64 j] w fun e w' => ∃ b, e = .returned (.slice A (n - 1) c) ∧ lo ≤ b ∧ b < hi ∧ w.grownBy w' (some b) ∧ w'.heap.size = w.heap.size ∧ OwnG w' lo hi 54 3 (.slice A (n - 1) c) (n - 1) (cutC 3 i xs) := by
  obtain ⟨A', c', e, ⟨hc1, hc2⟩, hx, h0 | ⟨g, cur, rfl, b1, b2, b3, b4, b5, b6⟩⟩ := h
  · omega
  · simp only [Value.slice.injEq, true_and] at e
    obtain ⟨rfl, rfl⟩ := e
    subst hj
    have hB : Bk w g 54 cur := b4
    have hat : ∀ k u, xs[k]? = some u → w.cell? ⟨g, 0 + k, none⟩ = some u ∧ w.frozen? ⟨g, 0 + k, none⟩ = false ∧ u.oneCell' = true := fun k u hu => by
      rw [Nat.zero_add]
      refine ⟨?_, hB.free k, h1 u (List.mem_of_getElem? hu)⟩
      rw [hB.cell k, ← Array.getElem?_toList]
      have hk := (List.getElem?_eq_some_iff.1 hu).1
      rw [← b6, List.getElem?_take] at hu
      rw [if_pos (by rw [← hx]; exact hk)] at hu
      exact hu
    refine (del3_any g 0 c i (i + 1) n xs w hx hat hc1 hc2 hi' rfl).mono ?_
    rintro e w' ⟨rfl, rfl⟩
    obtain ⟨cur', d1, d2, d3, d4, d5⟩ := del_left (zs := [.string ⟨#[]⟩, .string ⟨#[]⟩, .string ⟨#[]⟩]) hB hx b5 b6 hi' rfl
    exact ⟨g, rfl, b1, b2, d3, d4, _, c, rfl, ⟨by omega, hc2⟩, cutC_len hx hi', .inr ⟨g, cur', rfl, b1, b2, by rw [d4]; exact b3, d1, by rw [d2]; omega, d5⟩⟩
theorem OwnG.del1 {w : World} {lo hi c n i : Nat} {A : Option Addr} {xs : List Value} (h : OwnG w lo hi 9 1 (.slice A n c) n xs) (h1 : ∀ x ∈ xs, x.oneCell' = true) (hi' : i < n) (j : Int) (hj : j = ((i + 1 : Nat) : Int)) :
    Calls Tryd.prog 58 #[.slice A n c, .int .i64 i, .int .i64 j] w fun e w' => ∃ b, e = .returned (.slice A (n - 1) c) ∧ lo ≤ b ∧ b < hi ∧ w.grownBy w' (some b) ∧ w'.heap.size = w.heap.size ∧ OwnG w' lo hi 9 1 (.slice A (n - 1) c) (n - 1) (cutC 1 i xs) := by
  obtain ⟨A', c', e, ⟨hc1, hc2⟩, hx, h0 | ⟨g, cur, rfl, b1, b2, b3, b4, b5, b6⟩⟩ := h
  · omega
  · simp only [Value.slice.injEq, true_and] at e
    obtain ⟨rfl, rfl⟩ := e
    subst hj
    have hB : Bk w g 9 cur := b4
    have hat : ∀ k u, xs[k]? = some u → w.cell? ⟨g, 0 + k, none⟩ = some u ∧ w.frozen? ⟨g, 0 + k, none⟩ = false ∧ u.oneCell' = true := fun k u hu => by
      rw [Nat.zero_add]
      refine ⟨?_, hB.free k, h1 u (List.mem_of_getElem? hu)⟩
      rw [hB.cell k, ← Array.getElem?_toList]
      have hk := (List.getElem?_eq_some_iff.1 hu).1
      rw [← b6, List.getElem?_take] at hu
      rw [if_pos (by rw [← hx]; exact hk)] at hu
      exact hu
    refine (del1_any g 0 c i (i + 1) n xs w (by omega) hat hc1 hc2 hi' rfl).mono ?_
    rintro e w' ⟨rfl, rfl⟩
    obtain ⟨cur', d1, d2, d3, d4, d5⟩ := del_left (zs := [.string ⟨#[]⟩]) hB hx b5 b6 hi' rfl
    simp only [Nat.mul_one] at d1 d3 d4
    exact ⟨g, rfl, b1, b2, d3, d4, _, c, rfl, ⟨by omega, hc2⟩, cutC_len hx hi', .inr ⟨g, cur', rfl, b1, b2, by rw [d4]; exact b3, d1, by rw [d2]; omega, d5⟩⟩
theorem flat_cut {sz : Nat} : ∀ (la : List D) (i : Nat), (∀ e ∈ la, (dcells e).length = sz) → i < la.length → flat (la.eraseIdx i) = (flat la).take (i * sz) ++ (flat la).drop ((i + 1) * sz)
  | [], i, h, hi => by simp at hi
  | e :: la, 0, h, hi => by
    have he := h e (by simp)
    simp [flat_cons, ← he]
  | e :: la, i + 1, h, hi => by
    have he := h e (by simp)
    have ih := flat_cut la i (fun x hx => h x (by simp [hx])) (by simpa using hi)
    rw [List.eraseIdx_cons_succ, flat_cons, flat_cons, ih, List.take_append, List.drop_append, he]
    have e1 : (i + 1) * sz = sz + i * sz := by rw [Nat.add_mul]; omega
    have e2 : (i + 1 + 1) * sz = sz + (i + 1) * sz := by rw [Nat.add_mul (i + 1)]; omega
    rw [e2, e1, List.take_of_length_le (l := dcells e) (by omega), List.drop_of_length_le (l := dcells e) (by omega)]
    simp
theorem Rd.cut {sz i : Nat} {vs : List Value} {la : List D} (h : Rd vs la) (hs : ∀ e ∈ la, (dcells e).length = sz) (hl : vs.length = la.length * sz) (hi : i < la.length) : Rd (cutC sz i vs) (la.eraseIdx i) := by
  have hf := flat_len hs
  have hle : (i + 1) * sz ≤ la.length * sz := Nat.mul_le_mul_right _ hi
  have e1 : (i + 1) * sz = i * sz + sz := by rw [Nat.add_mul]; omega
  refine ⟨fun x hx => ?_, fun F w j v x hv hx => ?_⟩
  · rcases List.mem_append.1 hx with hx | hx
    · exact h.1 x (List.mem_of_mem_take hx)
    · exact h.1 x (List.mem_of_mem_drop hx)
  · rw [flat_cut la i hs hi] at hx
    unfold cutC at hv
    by_cases hj : j < i * sz
    · rw [List.getElem?_append_left (by simp; omega), List.getElem?_take, if_pos hj] at hv hx
      exact h.2 F w j v x hv hx
    · rw [List.getElem?_append_right (by simp; omega), List.getElem?_drop] at hv hx
      simp only [List.length_take, hl, hf] at hv hx
      exact h.2 F w _ v x hv hx
end Go.Av
namespace Go.Av
open Go.Proofs Go.RowKit Go.Proofs.YtfhpckkldelkcaaDoor
variable [Ek]
theorem OwnG.den {w : World} {lo hi n sz : Nat} {e : TypeId} {v : Value} {vs : List Value} {es : List D} {F : Nat → Nat → Prop} (h : OwnG w lo hi e sz v n vs) (hn : es.length = n) (hs : ∀ e ∈ es, (dcells e).length = sz) (hsz : 0 < sz) (hr : Rd vs es) (hF : ∀ b o, lo ≤ b → b < hi → F b o) : Den0 F w v (.list es) := by
  obtain ⟨A, c, rfl, ⟨hc, hm⟩, hx, h0⟩ := h
  refine .list A n c sz es vs hn hc hsz hs hx ?_ (fun i v x hv hx => hr.2 F w i v x hv hx)
  rcases h0 with h0 | ⟨g, cur, rfl, b1, b2, b3, b4, b5, b6⟩
  · left
    rw [h0, Nat.zero_mul] at hx
    exact List.length_eq_zero_iff.1 hx
  · right
    refine ⟨g, 0, rfl, fun i v hv => ⟨hF _ _ b1 b2, ?_, hr.1 v (List.mem_of_getElem? hv)⟩⟩
    have hi := (List.getElem?_eq_some_iff.1 hv).1
    rw [Nat.zero_add, cell_of_row w g i cur e (0, 0) b4, ← Array.getElem?_toList]
    rw [← b6, List.getElem?_take, if_pos (by omega)] at hv
    exact hv
theorem OwnG.one {w : World} {lo hi n sz : Nat} {e : TypeId} {v : Value} {vs : List Value} (h : OwnG w lo hi e sz v n vs) : v.oneCell' = true := by
  obtain ⟨A, c, rfl, _⟩ := h
  rfl
theorem DocR.den {w : World} {lo hi : Nat} {u : Value} {es : List D} {F : Nat → Nat → Prop} (h : DocR w lo hi u es) (hs : ∀ e ∈ es, isNode e = true) (hF : ∀ b o, lo ≤ b → b < hi ∨ (∃ c, u = .slice (some ⟨b, 0, none⟩) es.length c) → F b o) : Den0 F w u (.list es) := by
  obtain ⟨g, c, cur, rfl, hc, hm, hlo, hh, hcs, r, m, h1, h2, h3, h4⟩ := h
  have hl7 : ∀ e ∈ es, (dcells e).length = 7 := isNode_len hs
  have hfl := flat_len hl7
  have hcl : (cur.toList.take (es.length * 7)).length = es.length * 7 := by simp; omega
  have key : ∀ (t : Nat) (v : Value) (x : D), cur[t]? = some v → (flat es)[t]? = some x → v.oneCell' = true ∧ Den0 F w v x := by
    intro t v x hv hx
    have ht : t < es.length * 7 := by rw [← hfl]; exact (List.getElem?_eq_some_iff.1 hx).1
    obtain ⟨i, j, hj, rfl⟩ : ∃ i j, j < 7 ∧ t = i * 7 + j := ⟨t / 7, t % 7, Nat.mod_lt _ (by decide), by omega⟩
    have hi : i < es.length := by omega
    have hei : es[i]? = some es[i] := List.getElem?_eq_getElem hi
    have hmem := List.getElem_mem hi
    obtain ⟨p, k, sp, nm, la, ls, tx, u4, u5, vs4, vs5, he, ⟨c0, c1, c2, c3, c4, c5, c6⟩, o4, o5, r4, r5⟩ := h4 i _ hi hei
    obtain ⟨p', k', sp', nm', la', ls', tx', he', q4, q5, _, _⟩ := isNode_inv (hs _ hmem)
    rw [he] at hei he'
    simp only [D.agg.injEq, List.cons.injEq, D.int.injEq, D.str.injEq, D.list.injEq, and_true, true_and] at he'
    obtain ⟨rfl, rfl, rfl, rfl, rfl, rfl, rfl⟩ := he'
    have f := flat_at hl7 hei j hj
    rw [hx] at f
    have hl0 := DocC.lo_r h1 h3 i (by omega)
    have hr1 := r_mono' h3 (i := i + 1) (j := es.length) (by omega) (Nat.le_refl _)
    have hmi := h3 i hi
    have d4 : Den0 F w u4 (.list la) := o4.den rfl q4 (by decide) r4 (fun b o hb hb2 => hF b o (by omega) (.inl (by omega)))
    have d5 : Den0 F w u5 (.list ls) := o5.den rfl q5 (by decide) r5 (fun b o hb hb2 => hF b o (by omega) (.inl (by omega)))
    match j, hj with
    | 0, _ => simp only [Nat.add_zero] at hv; rw [c0] at hv; simp [dcells] at f; cases hv; subst f; exact ⟨rfl, .int _ _⟩
    | 1, _ => rw [c1] at hv; simp [dcells] at f; cases hv; subst f; exact ⟨rfl, .int _ _⟩
    | 2, _ => rw [c2] at hv; simp [dcells] at f; cases hv; subst f; exact ⟨rfl, .str _⟩
    | 3, _ => rw [c3] at hv; simp [dcells] at f; cases hv; subst f; exact ⟨rfl, .str _⟩
    | 4, _ => rw [c4] at hv; simp [dcells] at f; cases hv; subst f; exact ⟨o4.one, d4⟩
    | 5, _ => rw [c5] at hv; simp [dcells] at f; cases hv; subst f; exact ⟨o5.one, d5⟩
    | 6, _ => rw [c6] at hv; simp [dcells] at f; cases hv; subst f; exact ⟨rfl, .str _⟩
  refine .list _ _ c 7 es (cur.toList.take (es.length * 7)) rfl hc (by decide) hl7 hcl (.inr ⟨g, 0, rfl, fun i v hv => ?_⟩) (fun i v x hv hx => ?_)
  · have hi := (List.getElem?_eq_some_iff.1 hv).1
    rw [List.getElem?_take, if_pos (by omega), Array.getElem?_toList] at hv
    rw [Nat.zero_add, cell_of_row w g i cur 28 (0, 0) hh]
    refine ⟨hF _ _ hlo (.inr ⟨c, rfl⟩), hv, ?_⟩
    have : i < (flat es).length := by omega
    exact (key i v _ hv (List.getElem?_eq_getElem this)).1
  · have hi := (List.getElem?_eq_some_iff.1 hv).1
    rw [List.getElem?_take, if_pos (by omega), Array.getElem?_toList] at hv
    exact (key i v x hv hx).2
end Go.Av
namespace Go.Av
variable [Ek]
open Go.Proofs Go.RowKit Go.Proofs.YtfhpckkldelkcaaDoor
def extCl : Call := fun f args pbs => match f, args, pbs with
  | 46, [.list es], [] => if szAll 3 es = true then some (.list es, [], []) else none
  | 47, [.list es], [] => if szAll 1 es = true then some (.list es, [], []) else none
  | 29, [d], [] => if isNode d = true then some (d, [], []) else none
  | _, _, _ => none
theorem extCl_ok : CallOK Tryd.prog extCl := by
  intro f args pbs d r pbs' h
  unfold extCl at h
  split at h
  · rename_i es
    split at h
    · rename_i hc
      obtain ⟨hs, hl⟩ := szAll_inv hc
      simp only [Option.some.injEq, Prod.mk.injEq] at h
      obtain ⟨rfl, rfl, rfl⟩ := h
      refine ⟨⟨_, Tryd.func46, rfl⟩, fun vals w F μ hv hd hb _ hlt hg => ?_⟩
      obtain ⟨v, rfl, h0⟩ := one_den hv hd
      exact (clone46_any es F w v hlt (den_list0 h0) hs (by omega)).mono fun e w' h => h.ret hlt
    · cases h
  · rename_i es
    split at h
    · rename_i hc
      obtain ⟨hs, hl⟩ := szAll_inv hc
      simp only [Option.some.injEq, Prod.mk.injEq] at h
      obtain ⟨rfl, rfl, rfl⟩ := h
      refine ⟨⟨_, Tryd.func47, rfl⟩, fun vals w F μ hv hd hb _ hlt hg => ?_⟩
      obtain ⟨v, rfl, h0⟩ := one_den hv hd
      exact (clone47_any es F w v hlt (den_list0 h0) hs (by omega)).mono fun e w' h => h.ret hlt
    · cases h
  · rename_i d0
    split at h
    · rename_i hc
      simp only [Option.some.injEq, Prod.mk.injEq] at h
      obtain ⟨rfl, rfl, rfl⟩ := h
      refine ⟨⟨_, Tryd.func29, rfl⟩, fun vals w F μ hv hd hb _ hlt hg => ?_⟩
      obtain ⟨v, rfl, h0⟩ := one_den hv hd
      obtain ⟨p, k, sp, nm, la, ls, tx, v4, v5, rfl, rfl, h4, h5, o4, o5⟩ := node_pure hc h0
      obtain ⟨_, _, _, _, la', ls', _, e, s4, s5, l4, l5⟩ := isNode_inv hc
      simp only [D.agg.injEq, List.cons.injEq, D.list.injEq, and_true] at e
      obtain ⟨_, _, _, _, rfl, rfl, _⟩ := e
      refine (copied_any p k ⟨sp.toArray⟩ ⟨nm.toArray⟩ ⟨tx.toArray⟩ v4 v5 la ls F w hlt h4 h5 s4 s5 (by omega) (by omega) o4 o5).mono ?_
      rintro e w' ⟨u4, u5, rfl, hG, q4, q5, p4, p5⟩
      exact (RetD.of hG (node_den q4 q5 p4 p5)).ret hlt
    · cases h
  · cases h
end Go.Av
namespace Go.Av
open Go.Proofs Go.RowKit Go.Proofs.YtfhpckkldelkcaaDoor
variable [Ek]
def plainN : D → Bool
  | .agg [_, _, _, _, .list la, .list ls, _] => (flat la).all noPtr && (flat ls).all noPtr
  | _ => false
def docOk (es : List D) : Bool := nodesOk es && es.all plainN
theorem docOk_inv {es : List D} (h : docOk es = true) : (∀ e ∈ es, isNode e = true) ∧ es.length ≤ 10000 ∧ ∀ p k sp nm la ls tx, D.agg [.int .i64 p, .int .i64 k, .str sp, .str nm, .list la, .list ls, .str tx] ∈ es → (∀ x ∈ flat la, noPtr x = true) ∧ ∀ x ∈ flat ls, noPtr x = true := by
  unfold docOk at h
  simp only [Bool.and_eq_true] at h
  obtain ⟨h1, h2⟩ := nodesOk_inv h.1
  refine ⟨h1, h2, fun p k sp nm la ls tx hm => ?_⟩
  have := List.all_eq_true.1 h.2 _ hm
  simp only [plainN, Bool.and_eq_true, List.all_eq_true] at this
  exact this
abbrev TS := List D × Int × D
def cutAt (at_ : Bool) (es : List D) (i k : Nat) : Option (List D) := match es[i]? with
  | some (.agg [p, kk, sp, nm, .list la, .list ls, tx]) =>
    if at_ then (if k < la.length then some (es.set i (.agg [p, kk, sp, nm, .list (la.eraseIdx k), .list ls, tx])) else none)
    else (if k < ls.length then some (es.set i (.agg [p, kk, sp, nm, .list la, .list (ls.eraseIdx k), tx])) else none)
  | _ => none
def tryR : Option (D × List Room × List Bx) → Option (Bool × TS)
  | some (.bool b, _, [⟨_, [.list es, .int .i64 n, t], _⟩]) => some (b, es, n, t)
  | _ => none
def innerT (call : Call) (at_ : Bool) (i : Nat) : Nat → TS × Bool → Option (TS × Bool)
  | 0, s => if docOk s.1.1 = true then some s else none
  | k + 1, ((es, n, t), dn) => if docOk es = true then (match cutAt at_ es i k with
    | none => none
    | some es' => (match tryR (call 56 [.ptr (pid 0) 0 0, .list es', .int .i64 n] [⟨0, [.list es, .int .i64 n, t], []⟩]) with
      | none => none
      | some (b, s2) => innerT call at_ i k (s2, if b then true else dn))) else none
def lenAt (at_ : Bool) : Option D → Option Nat
  | some (.agg [_, _, _, _, .list la, .list ls, _]) => some (if at_ then la.length else ls.length)
  | _ => none
def outerT (call : Call) (at_ : Bool) : Nat → Nat → TS × Bool → Option (TS × Bool)
  | 0, _, s => if docOk s.1.1 = true then some s else none
  | j + 1, i, s => if docOk s.1.1 = true then (match lenAt at_ s.1.1[i]? with
    | none => none
    | some k => (match innerT call at_ i k s with
      | none => none
      | some s' => outerT call at_ j (i + 1) s')) else none
def StT (F : Nat → Nat → Prop) (w : World) (g0 : Nat) (wr : World) (s : TS) : Prop :=
  ∃ Fr, Ext (fun b => b = g0) F w Fr wr ∧ Lt Fr wr ∧ (∀ b o, Fr b o → F b o ∨ w.heap.size ≤ b) ∧ GOK Fr wr ∧ BoxAt Fr wr g0 [.list s.1, .int .i64 s.2.1, s.2.2]
theorem StT.box {F : Nat → Nat → Prop} {w wr : World} {g0 : Nat} {s : TS} (h : StT F w g0 wr s) : ∃ Fr a c, Lt Fr wr ∧ g0 < wr.heap.size ∧ wr.cell? ⟨g0, 0, none⟩ = some (.slice a s.1.length c) ∧ wr.cell? ⟨g0, 1, none⟩ = some (.int .i64 s.2.1) ∧ Den0 Fr wr (.slice a s.1.length c) (.list s.1) := by
  obtain ⟨Fr, hE, hlt, hn, hg, vs, t, rest, fr, ⟨h1, h0⟩, h2, h3, h4, h5⟩ := h
  match vs, h2 with
  | [v0, v1, v2], _ =>
    have d0 := h4 0 v0 _ rfl rfl
    have d1 := h4 1 v1 _ rfl rfl
    cases d1
    have hc := d0
    cases d0 with
    | list a n c sz es vs q1 q2 q3 q4 q5 q6 q7 =>
      rw [← q1] at h1 hc
      exact ⟨Fr, a, c, hlt, lt_of_heap h1, by rw [cell_of_row wr g0 0 _ t fr h1]; rfl, by rw [cell_of_row wr g0 1 _ t fr h1]; rfl, hc⟩
theorem StT.ge {F : Nat → Nat → Prop} {w wr w3 : World} {g0 : Nat} {s : TS} (h : StT F w g0 wr s) (hG : Ge wr w3) : StT F w g0 w3 s := by
  obtain ⟨Fr, hE, hlt, hn, hg, hb⟩ := h
  have hE2 := ext_nw hlt hG
  have hgl : g0 < wr.heap.size := by
    obtain ⟨vs, t, rest, fr, ⟨h1, _⟩, _⟩ := hb
    exact lt_of_heap h1
  refine ⟨nw Fr wr w3, hE.trans (hE2.weaken fun _ _ h => h.elim), lt_nw hlt hG, fun b o h => ?_, hg.ext hE2, hb.ext hE2 (fun b o h => h.elim .inl fun h => .inr (.inl h.1)) id⟩
  rcases h with h | h
  · exact hn b o h
  · exact .inr (Nat.le_trans hE.size h.1)
theorem StT.try_ {call : Call} (hc : CallOK Tryd.prog call) {F : Nat → Nat → Prop} {w wr w3 : World} {g0 : Nat} {s s2 : TS} {es' : List D} {b : Bool} {u : Value} (h : StT F w g0 wr s)
    (hr : tryR (call 56 [.ptr (pid 0) 0 0, .list es', .int .i64 s.2.1] [⟨0, [.list s.1, .int .i64 s.2.1, s.2.2], []⟩]) = some (b, s2)) (hG : Ge wr w3)
    (hd : ∀ F' : Nat → Nat → Prop, (∀ b o, wr.heap.size ≤ b → b < w3.heap.size → F' b o) → Den0 F' w3 u (.list es')) :
    Calls Tryd.prog 56 #[.pointer (some ⟨g0, 0, none⟩), u, .int .i64 s.2.1] w3 fun e w' => e = .returned (.bool b) ∧ StT F w g0 w' s2 := by
  obtain ⟨Fr, hE, hlt, hn, hg, hb⟩ := h
  have hE2 := ext_nw hlt hG
  have hgl : g0 < wr.heap.size := by
    obtain ⟨vs, t, rest, fr, ⟨h1, _⟩, _⟩ := hb
    exact lt_of_heap h1
  have hb2 : BoxAt (nw Fr wr w3) w3 g0 [.list s.1, .int .i64 s.2.1, s.2.2] := hb.ext hE2 (fun b o h => h.elim .inl fun h => .inr (.inl h.1)) id
  unfold tryR at hr
  split at hr
  · rename_i b' r' es2 n2 t2 rm heq
    simp only [Option.some.injEq, Prod.mk.injEq] at hr
    obtain ⟨rfl, rfl⟩ := hr
    have hco := (hc 56 _ _ _ _ _ heq).2 [.pointer (some ⟨g0, 0, none⟩), u, .int .i64 s.2.1] w3 (nw Fr wr w3) ⟨fun _ => g0, fun _ _ => none⟩ rfl ?_ ?_ ?_ (lt_nw hlt hG) (hg.ext hE2)
    · refine hco.mono ?_
      rintro e w' ⟨v, F', nc, rfl, hE3, hlt3, hn3, hv, hcl, hinj, hbx⟩
      have hS : ∀ b, (Gv.mk 1 ⟨fun _ => g0, fun _ _ => none⟩).S b → b = g0 := by
        rintro b (⟨i, _, h⟩ | ⟨i, o, _, h⟩)
        · exact h.symm
        · cases h
      refine ⟨?_, F', ((hE.trans (hE2.weaken fun _ _ h => h.elim)).trans (hE3.weaken fun b _ h => hS b h)), hlt3, fun b o h => ?_, (hg.ext hE2).ext hE3, (hbx 0 _ (by simp) rfl).1⟩
      · rcases hv with ⟨_, hv, _⟩ | ⟨h1, _⟩
        · have h0 := hv (fun _ => 0) (fun _ _ => 0)
          cases h0 with
          | pure _ _ h0 => cases h0; rfl
        · simp at h1
      · rcases hn3 b o h with h | h | h
        · rcases h with h | h
          · exact hn b o h
          · exact .inr (Nat.le_trans hE.size h.1)
        · exact .inr (Nat.le_trans (Nat.le_trans hE.size hG.size) h)
        · obtain ⟨i, o, _, h⟩ := h
          cases h
    · intro i v x hv hx
      match i with
      | 0 =>
        simp only [List.getElem?_cons_zero, Option.some.injEq] at hv hx
        subst hv; subst hx
        exact Den.ptr (c := fun _ => 1) (ν := argNu ⟨fun _ => g0, fun _ _ => none⟩) (pid 0) 0 0 (by decide)
      | 1 => simp only [List.getElem?_cons_zero, List.getElem?_cons_succ, Option.some.injEq] at hv hx; subst hv; subst hx; exact .pure _ _ (hd _ fun b o h1 h2 => .inr ⟨h1, h2⟩)
      | 2 => simp only [List.getElem?_cons_zero, List.getElem?_cons_succ, Option.some.injEq] at hv hx; subst hv; subst hx; exact .pure _ _ (.int _ _)
      | i + 3 => simp at hv
    · intro i bx hi
      match i with
      | 0 =>
        simp only [List.getElem?_cons_zero, Option.some.injEq] at hi
        subst hi
        exact ⟨hb2, rfl, BRooms.nil⟩
      | i + 1 => simp at hi
    · refine ⟨fun i j hi hj _ => ?_, fun i o i' o' g h => ?_, fun i o g h => ?_⟩
      · simp at hi hj; omega
      · cases h
      · cases h
  · cases hr
theorem isNode_lists {p k : Int} {sp nm tx : List UInt8} {la ls la' ls' : List D} (h : isNode (.agg [.int .i64 p, .int .i64 k, .str sp, .str nm, .list la, .list ls, .str tx]) = true) (h1 : ∀ x ∈ la', x ∈ la) (h2 : ∀ x ∈ ls', x ∈ ls) (h3 : la'.length ≤ la.length) (h4 : ls'.length ≤ ls.length) :
    isNode (.agg [.int .i64 p, .int .i64 k, .str sp, .str nm, .list la', .list ls', .str tx]) = true := by
  simp only [isNode, Bool.and_eq_true, List.all_eq_true, beq_iff_eq, decide_eq_true_eq] at h ⊢
  exact ⟨⟨⟨fun x hx => h.1.1.1 x (h1 x hx), fun x hx => h.1.1.2 x (h2 x hx)⟩, by omega⟩, by omega⟩
theorem set_nodes {es : List D} {i : Nat} {x : D} (h : ∀ e ∈ es, isNode e = true) (hx : isNode x = true) : ∀ e ∈ es.set i x, isNode e = true := fun e he => by
  rcases List.mem_or_eq_of_mem_set he with he | he
  · exact h e he
  · rw [he]; exact hx
theorem cutA_nodes {es : List D} {i k : Nat} {p kk : Int} {sp nm tx : List UInt8} {la ls : List D} (h : ∀ e ∈ es, isNode e = true) (he : es[i]? = some (.agg [.int .i64 p, .int .i64 kk, .str sp, .str nm, .list la, .list ls, .str tx])) :
    ∀ e ∈ es.set i (.agg [.int .i64 p, .int .i64 kk, .str sp, .str nm, .list (la.eraseIdx k), .list ls, .str tx]), isNode e = true :=
  set_nodes h (isNode_lists (h _ (List.mem_of_getElem? he)) (fun x hx => List.mem_of_mem_eraseIdx hx) (fun _ hx => hx) (by rw [List.length_eraseIdx]; split <;> omega) (Nat.le_refl _))
theorem cutS_nodes {es : List D} {i k : Nat} {p kk : Int} {sp nm tx : List UInt8} {la ls : List D} (h : ∀ e ∈ es, isNode e = true) (he : es[i]? = some (.agg [.int .i64 p, .int .i64 kk, .str sp, .str nm, .list la, .list ls, .str tx])) :
    ∀ e ∈ es.set i (.agg [.int .i64 p, .int .i64 kk, .str sp, .str nm, .list la, .list (ls.eraseIdx k), .str tx]), isNode e = true :=
  set_nodes h (isNode_lists (h _ (List.mem_of_getElem? he)) (fun _ hx => hx) (fun x hx => List.mem_of_mem_eraseIdx hx) (Nat.le_refl _) (by rw [List.length_eraseIdx]; split <;> omega))
end Go.Av
namespace Go.Av
open Go.Proofs Go.RowKit Go.Proofs.YtfhpckkldelkcaaDoor
variable [Ek]
theorem attrs_walk {call : Call} (hc : CallOK Tryd.prog call) {F : Nat → Nat → Prop} {w : World} {g0 : Nat} {s R : TS} {dR : Bool} (h0 : StT F w g0 w s) (hR : outerT call true s.1.length 0 (s, false) = some (R, dR)) :
    Calls Tryd.prog 41 #[.pointer (some ⟨g0, 0, none⟩)] w (fun e w' => e = .returned (.bool dR) ∧ StT F w g0 w' R) := by
  obtain ⟨F0, a, c, hlt0, hg0, q0, q1, qd⟩ := h0.box
  obtain ⟨n, HN⟩ : ∃ n, Hid (n = s.1.length) := ⟨_, rfl⟩
  have HR : Hid (outerT call true (n - 0) 0 (s, false) = some (R, dR)) := by rw [HN.out]; exact hR
  rw [← HN.out] at q0
  have hnL : n ≤ 10000 := by
    rw [HN.out]
    have hR' := hR
    cases hl : s.1.length with
    | zero => omega
    | succ j =>
      rw [hl] at hR'
      unfold outerT at hR'
      split at hR'
      · rename_i hd
        rw [← hl]
        exact (docOk_inv hd).2.1
      · cases hR'
  go_enter Tryd.func41, Tryd.ntmps41
  go_wp2_with fail
  go_loopw [2, 11] (fun v2 v11 wr => ∃ (i : Nat) (dn : Bool) (sx : TS), v11 = .int .i64 i ∧ v2 = .bool dn ∧ i ≤ n ∧ StT F w g0 wr sx ∧ Hid (outerT call true (n - i) i (sx, dn) = some (R, dR))) (fun _ v _ => n - (intOf v).toNat)
  case atStart => exact ⟨0, false, s, rfl, rfl, Nat.zero_le _, h0, HR⟩
  case round =>
    obtain ⟨i, dn, sx, rfl, rfl, hle, hS, HO⟩ := hrel
    by_cases hk : i = n
    · subst hk
      have hO := HO.out
      rw [Nat.sub_self] at hO
      unfold outerT at hO
      have hO : some (sx, dn) = some (R, dR) := by
        split at hO
        · exact hO
        · cases hO
      simp only [Option.some.injEq, Prod.mk.injEq] at hO
      obtain ⟨rfl, rfl⟩ := hO
      go_wp2_with fail
      go_ret
      exact ⟨rfl, hS⟩
    · have hlt2 : i < n := by omega
      have hO := HO.out
      rw [show n - i = (n - (i + 1)) + 1 by omega] at hO
      unfold outerT at hO
      split at hO
      case isFalse => cases hO
      rename_i hdoc
      have hdoc : docOk sx.1 = true := hdoc
      obtain ⟨hs1, hs2, hs3⟩ := docOk_inv hdoc
      obtain ⟨Fx, ax, cx, hltx, hgx, x0, x1, xd⟩ := hS.box
      split at hO
      case h_1 => cases hO
      rename_i k0 hlen
      have hlen : lenAt true sx.1[i]? = some k0 := hlen
      split at hO
      case h_1 => cases hO
      rename_i sy hinn
      have hisx : i < sx.1.length := by
        apply Classical.byContradiction
        intro hn
        rw [List.getElem?_eq_none (by omega)] at hlen
        cases hlen
      obtain ⟨ax', cx', vs, ex, hcx, hvl, hsl, hv1, hxd⟩ := list_sl hltx xd (isNode_len hs1)
      obtain ⟨nx, HNX⟩ : ∃ nx, Hid (nx = sx.1.length) := ⟨_, rfl⟩
      simp only [Value.slice.injEq, true_and] at ex
      obtain ⟨rfl, rfl⟩ := ex
      obtain ⟨b, off, p, kk, sp, nm, la, ls, tx, x4, c4, x5, c5, rfl, hbw, hei, ⟨r0, r1, r2, r3, r4, r5, r6⟩, d4, d5, s4, s5, l4, l5⟩ := node_all hs1 hvl hsl hxd (i := i) hisx
      have hk0 : k0 = la.length := by
        have e : sx.1[i]? = some (sx.1.getD i .bad) := by simp [List.getD, hisx]
        rw [e, hei] at hlen
        simp only [lenAt] at hlen
        injection hlen with hlen
        exact hlen.symm
      have hisx' : i < nx := by rw [HNX.out]; exact hisx
      rw [← HNX.out] at x0
      obtain ⟨kl, HKL⟩ : ∃ kl, Hid (kl = k0) := ⟨_, rfl⟩
      rw [← hk0, ← HKL.out] at r4
      have hkL : kl ≤ 1000000 := by rw [HKL.out, hk0]; exact l4
      have HI : Hid (innerT call true i kl (sx, dn) = some sy) := by rw [HKL.out]; exact hinn
      have HO2 : Hid (outerT call true (n - (i + 1)) (i + 1) sy = some (R, dR)) := hO
      clear hO hinn hlen
      go_wp2_with fail
      go_loopw [2, 4] (fun v2 v4 wz => ∃ (k : Nat) (dz : Bool) (sz : TS), v4 = .int .i64 ((k : Int) - 1) ∧ v2 = .bool dz ∧ k ≤ kl ∧ StT F w g0 wz sz ∧ Hid (innerT call true i k (sz, dz) = some sy)) (fun _ v _ => (intOf v + 1).toNat)
      case atStart => exact ⟨kl, dn, sx, rfl, rfl, Nat.le_refl _, hS, HI⟩
      case round =>
        obtain ⟨k, dz, sz, rfl, rfl, hkle, hSz, HI⟩ := hrel
        cases k with
        | zero =>
          have hI := HI.out
          unfold innerT at hI
          have hI : some (sz, dz) = some sy := by
            split at hI
            · exact hI
            · cases hI
          injection hI with hI
          subst hI
          go_wp2_with fail
          exact ⟨⟨i + 1, dz, sz, by simp, rfl, by omega, hSz, HO2⟩, by simp [intOf]; omega⟩
        | succ k =>
          have e1 : ((k + 1 : Nat) : Int) - 1 = (k : Int) := by omega
          rw [e1]
          have hI := HI.out
          unfold innerT at hI
          split at hI
          case isFalse => cases hI
          rename_i hdz
          split at hI
          case h_1 => cases hI
          rename_i es' hcut
          split at hI
          case h_1 => cases hI
          rename_i bt s2 htr
          obtain ⟨z1, z2, z3⟩ := docOk_inv hdz
          have HI2 : Hid (innerT call true i k (s2, if bt then true else dz) = some sy) := hI
          clear hI HI
          obtain ⟨Fz, az, cz, hltz, hgz, y0, y1, yd⟩ := hSz.box
          unfold cutAt at hcut
          split at hcut
          case h_2 => cases hcut
          rename_i dp dk dsp dnm lz lsz dtx hez
          obtain ⟨pz, kz, spz, nmz, la', ls', txz, heq, w4, w5, _, _⟩ := isNode_inv (z1 _ (List.mem_of_getElem? hez))
          simp only [D.agg.injEq, List.cons.injEq, D.list.injEq, and_true] at heq
          obtain ⟨rfl, rfl, rfl, rfl, rfl, rfl, rfl⟩ := heq
          have hcut : (if k < lz.length then some (sz.1.set i (.agg [.int .i64 pz, .int .i64 kz, .str spz, .str nmz, .list (lz.eraseIdx k), .list lsz, .str txz])) else none) = some es' := hcut
          split at hcut
          case isFalse => cases hcut
          rename_i hkz
          injection hcut with hcut
          obtain ⟨nz, HNZ⟩ : ∃ nz, Hid (nz = sz.1.length) := ⟨_, rfl⟩
          obtain ⟨nl, HNL⟩ : ∃ nl, Hid (nl = lz.length) := ⟨_, rfl⟩
          have hiz : i < nz := by rw [HNZ.out]; exact (List.getElem?_eq_some_iff.1 hez).1
          have hkl : k < nl := by rw [HNL.out]; exact hkz
          have hPL := z3 _ _ _ _ _ _ _ (List.mem_of_getElem? hez)
          rw [← HNZ.out] at y0
          have HCUT : Hid (sz.1.set i (.agg [.int .i64 pz, .int .i64 kz, .str spz, .str nmz, .list (lz.eraseIdx k), .list lsz, .str txz]) = es') := hcut
          have HEZ : Hid (sz.1[i]? = some (.agg [.int .i64 pz, .int .i64 kz, .str spz, .str nmz, .list lz, .list lsz, .str txz])) := hez
          have YD : Hid (Den0 Fz wr (.slice az nz cz) (.list sz.1)) := by rw [HNZ.out]; exact yd
          clear hcut hez yd
          go_wp2_with (first
            | (go_at_call 39; refine (whole_new sz.1 Fz _ _ hltz YD.out z3 z1 (by omega)).mono ?_; rintro e w1 ⟨u, rfl, hG1, g, cg, cur, hu, hgc, hgm, hgl, hgh, hgs, hD⟩; rw [← HNZ.out] at hu hgc hgs; subst hu; obtain ⟨a', m', u4, vs4, ha', hm', hcu, o4, rd4, hset⟩ := hD.setA (by rw [← HNZ.out]; exact hiz) HEZ.out; obtain ⟨A4, C4, rfl, _, o4len, _⟩ := id o4; have oN : OwnG w1 a' m' 54 3 (.slice A4 nl C4) nl vs4 := (by rw [HNL.out]; exact o4); have B1 : Bk w1 g 28 cur := hgh; have k4 := (B1.cell (i * 7 + 4)).trans hcu; rw [← HNL.out] at k4)
            | (go_at_call 57; refine (oN.del3 rd4.1 hkl _ (by omega)).mono ?_; rintro e w2 ⟨bb, rfl, hb1, hb2, hg2, hsz2, oD⟩; have B2 : Bk w2 g 28 cur := B1.grown hg2 (by intro e; injection e with e; omega); have k4' := (B2.cell (i * 7 + 4)).trans hcu; have f4' := B2.free (i * 7 + 4); have y6 : w2.cell? ⟨g0, 1, none⟩ = some (.int .i64 sz.2.1) := (World.cell?_of_block (a := ⟨g0, 1, none⟩) (hg2.block g0 (Nat.lt_of_lt_of_le hgz hG1.size) (by intro e; injection e with e; omega))).trans ((hG1.cell (p := ⟨g0, 1, none⟩) hgz).trans y1))
            | fail)
          obtain ⟨w3, HW3⟩ : ∃ w3, w3 = w2.setCell ⟨g, i * 7 + 4, none⟩ (.slice A4 (nl - 1) C4) := ⟨_, rfl⟩
          rw [← HW3]
          have G3 : Ge wr w3 := by rw [HW3]; exact ge_put (below_of_grown_row hG1 hg2 (by omega)) hgl _
          have DEN : ∀ F' : Nat → Nat → Prop, (∀ b o, wr.heap.size ≤ b → b < w3.heap.size → F' b o) → Den0 F' w3 (.slice (some ⟨g, 0, none⟩) nz cg) (.list es') := by
            intro F' hF'
            have hnl : (lz.eraseIdx k).length = nl - 1 := by rw [List.length_eraseIdx, ← HNL.out, if_pos hkl]
            have hsz3 : w3.heap.size = w1.heap.size := by rw [HW3, World.size_setCell]; exact hsz2
            have hcl : i * 7 + 4 < cur.size := by omega
            have hD2 := hset w2 (.slice A4 (nl - 1) C4) (lz.eraseIdx k) (cutC 3 k vs4) bb (cur.setIfInBounds (i * 7 + 4) (.slice A4 (nl - 1) C4)) hg2 hb1 hb2 (by rw [hnl]; exact oD) (rd4.cut w4 o4len hkz) (fun j hj => by rw [Array.getElem?_setIfInBounds, if_neg (by omega)]) (by rw [Array.getElem?_setIfInBounds, if_pos rfl, if_pos hcl])
            have GZ := grown_put (grown_refl w2 (some g)) (p := ⟨g, i * 7 + 4, none⟩) rfl (.slice A4 (nl - 1) C4)
            have hl' : es'.length = nz := by rw [← HCUT.out, List.length_set, HNZ.out]
            refine DocR.den (lo := wr.heap.size) (hi := w1.heap.size) ⟨g, cg, cur.setIfInBounds (i * 7 + 4) (.slice A4 (nl - 1) C4), by rw [hl'], by rw [hl']; exact hgc, hgm, hgl, by rw [HW3]; exact B2.put _ _, by rw [hl']; simpa using hgs, ?_⟩ ?_ ?_
            · rw [HW3, hl', ← HCUT.out, HNZ.out]
              exact hD2.gb GZ (Nat.lt_succ_self g)
            · rw [← HCUT.out]
              exact cutA_nodes z1 HEZ.out
            · rintro b o hb (h | ⟨c', h⟩)
              · exact hF' b o hb (by rw [hsz3]; exact h)
              · simp only [Value.slice.injEq, Option.some.injEq, Addr.mk.injEq] at h
                exact hF' b o hb (by rw [hsz3, ← h.1.1]; exact (Array.getElem?_eq_some_iff.1 hgh).1)
          clear HW3
          go_wp2_with (go_at_call 56; refine (hSz.try_ hc htr G3 DEN).mono ?_; rintro e w4 ⟨rfl, hS4⟩)
          all_goals exact ⟨⟨k, _, s2, rfl, rfl, by omega, hS4, by rename_i hbt; simpa [hbt] using HI2⟩, by simp [intOf]⟩
end Go.Av
namespace Go.Av
open Go.Proofs Go.RowKit Go.Proofs.YtfhpckkldelkcaaDoor
variable [Ek]
theorem states_walk {call : Call} (hc : CallOK Tryd.prog call) {F : Nat → Nat → Prop} {w : World} {g0 : Nat} {s R : TS} {dR : Bool} (h0 : StT F w g0 w s) (hR : outerT call false s.1.length 0 (s, false) = some (R, dR)) :
    Calls Tryd.prog 42 #[.pointer (some ⟨g0, 0, none⟩)] w (fun e w' => e = .returned (.bool dR) ∧ StT F w g0 w' R) := by
  obtain ⟨F0, a, c, hlt0, hg0, q0, q1, qd⟩ := h0.box
  obtain ⟨n, HN⟩ : ∃ n, Hid (n = s.1.length) := ⟨_, rfl⟩
  have HR : Hid (outerT call false (n - 0) 0 (s, false) = some (R, dR)) := by rw [HN.out]; exact hR
  rw [← HN.out] at q0
  have hnL : n ≤ 10000 := by
    rw [HN.out]
    have hR' := hR
    cases hl : s.1.length with
    | zero => omega
    | succ j =>
      rw [hl] at hR'
      unfold outerT at hR'
      split at hR'
      · rename_i hd
        rw [← hl]
        exact (docOk_inv hd).2.1
      · cases hR'
  go_enter Tryd.func42, Tryd.ntmps42
  go_wp2_with fail
  go_loopw [2, 11] (fun v2 v11 wr => ∃ (i : Nat) (dn : Bool) (sx : TS), v11 = .int .i64 i ∧ v2 = .bool dn ∧ i ≤ n ∧ StT F w g0 wr sx ∧ Hid (outerT call false (n - i) i (sx, dn) = some (R, dR))) (fun _ v _ => n - (intOf v).toNat)
  case atStart => exact ⟨0, false, s, rfl, rfl, Nat.zero_le _, h0, HR⟩
  case round =>
    obtain ⟨i, dn, sx, rfl, rfl, hle, hS, HO⟩ := hrel
    by_cases hk : i = n
    · subst hk
      have hO := HO.out
      rw [Nat.sub_self] at hO
      unfold outerT at hO
      have hO : some (sx, dn) = some (R, dR) := by
        split at hO
        · exact hO
        · cases hO
      simp only [Option.some.injEq, Prod.mk.injEq] at hO
      obtain ⟨rfl, rfl⟩ := hO
      go_wp2_with fail
      go_ret
      exact ⟨rfl, hS⟩
    · have hlt2 : i < n := by omega
      have hO := HO.out
      rw [show n - i = (n - (i + 1)) + 1 by omega] at hO
      unfold outerT at hO
      split at hO
      case isFalse => cases hO
      rename_i hdoc
      have hdoc : docOk sx.1 = true := hdoc
      obtain ⟨hs1, hs2, hs3⟩ := docOk_inv hdoc
      obtain ⟨Fx, ax, cx, hltx, hgx, x0, x1, xd⟩ := hS.box
      split at hO
      case h_1 => cases hO
      rename_i k0 hlen
      have hlen : lenAt false sx.1[i]? = some k0 := hlen
      split at hO
      case h_1 => cases hO
      rename_i sy hinn
      have hisx : i < sx.1.length := by
        apply Classical.byContradiction
        intro hn
        rw [List.getElem?_eq_none (by omega)] at hlen
        cases hlen
      obtain ⟨ax', cx', vs, ex, hcx, hvl, hsl, hv1, hxd⟩ := list_sl hltx xd (isNode_len hs1)
      obtain ⟨nx, HNX⟩ : ∃ nx, Hid (nx = sx.1.length) := ⟨_, rfl⟩
      simp only [Value.slice.injEq, true_and] at ex
      obtain ⟨rfl, rfl⟩ := ex
      obtain ⟨b, off, p, kk, sp, nm, la, ls, tx, x4, c4, x5, c5, rfl, hbw, hei, ⟨r0, r1, r2, r3, r4, r5, r6⟩, d4, d5, s4, s5, l4, l5⟩ := node_all hs1 hvl hsl hxd (i := i) hisx
      have hk0 : k0 = ls.length := by
        have e : sx.1[i]? = some (sx.1.getD i .bad) := by simp [List.getD, hisx]
        rw [e, hei] at hlen
        simp only [lenAt] at hlen
        injection hlen with hlen
        exact hlen.symm
      have hisx' : i < nx := by rw [HNX.out]; exact hisx
      rw [← HNX.out] at x0
      obtain ⟨kl, HKL⟩ : ∃ kl, Hid (kl = k0) := ⟨_, rfl⟩
      rw [← hk0, ← HKL.out] at r5
      have hkL : kl ≤ 1000000 := by rw [HKL.out, hk0]; exact l5
      have HI : Hid (innerT call false i kl (sx, dn) = some sy) := by rw [HKL.out]; exact hinn
      have HO2 : Hid (outerT call false (n - (i + 1)) (i + 1) sy = some (R, dR)) := hO
      clear hO hinn hlen
      go_wp2_with fail
      go_loopw [2, 4] (fun v2 v4 wz => ∃ (k : Nat) (dz : Bool) (sz : TS), v4 = .int .i64 ((k : Int) - 1) ∧ v2 = .bool dz ∧ k ≤ kl ∧ StT F w g0 wz sz ∧ Hid (innerT call false i k (sz, dz) = some sy)) (fun _ v _ => (intOf v + 1).toNat)
      case atStart => exact ⟨kl, dn, sx, rfl, rfl, Nat.le_refl _, hS, HI⟩
      case round =>
        obtain ⟨k, dz, sz, rfl, rfl, hkle, hSz, HI⟩ := hrel
        cases k with
        | zero =>
          have hI := HI.out
          unfold innerT at hI
          have hI : some (sz, dz) = some sy := by
            split at hI
            · exact hI
            · cases hI
          injection hI with hI
          subst hI
          go_wp2_with fail
          exact ⟨⟨i + 1, dz, sz, by simp, rfl, by omega, hSz, HO2⟩, by simp [intOf]; omega⟩
        | succ k =>
          have e1 : ((k + 1 : Nat) : Int) - 1 = (k : Int) := by omega
          rw [e1]
          have hI := HI.out
          unfold innerT at hI
          split at hI
          case isFalse => cases hI
          rename_i hdz
          split at hI
          case h_1 => cases hI
          rename_i es' hcut
          split at hI
          case h_1 => cases hI
          rename_i bt s2 htr
          obtain ⟨z1, z2, z3⟩ := docOk_inv hdz
          have HI2 : Hid (innerT call false i k (s2, if bt then true else dz) = some sy) := hI
          clear hI HI
          obtain ⟨Fz, az, cz, hltz, hgz, y0, y1, yd⟩ := hSz.box
          unfold cutAt at hcut
          split at hcut
          case h_2 => cases hcut
          rename_i dp dk dsp dnm lz lsz dtx hez
          obtain ⟨pz, kz, spz, nmz, la', ls', txz, heq, w4, w5, _, _⟩ := isNode_inv (z1 _ (List.mem_of_getElem? hez))
          simp only [D.agg.injEq, List.cons.injEq, D.list.injEq, and_true] at heq
          obtain ⟨rfl, rfl, rfl, rfl, rfl, rfl, rfl⟩ := heq
          have hcut : (if k < lsz.length then some (sz.1.set i (.agg [.int .i64 pz, .int .i64 kz, .str spz, .str nmz, .list lz, .list (lsz.eraseIdx k), .str txz])) else none) = some es' := hcut
          split at hcut
          case isFalse => cases hcut
          rename_i hkz
          injection hcut with hcut
          obtain ⟨nz, HNZ⟩ : ∃ nz, Hid (nz = sz.1.length) := ⟨_, rfl⟩
          obtain ⟨nl, HNL⟩ : ∃ nl, Hid (nl = lsz.length) := ⟨_, rfl⟩
          have hiz : i < nz := by rw [HNZ.out]; exact (List.getElem?_eq_some_iff.1 hez).1
          have hkl : k < nl := by rw [HNL.out]; exact hkz
          have hPL := z3 _ _ _ _ _ _ _ (List.mem_of_getElem? hez)
          rw [← HNZ.out] at y0
          have HCUT : Hid (sz.1.set i (.agg [.int .i64 pz, .int .i64 kz, .str spz, .str nmz, .list lz, .list (lsz.eraseIdx k), .str txz]) = es') := hcut
          have HEZ : Hid (sz.1[i]? = some (.agg [.int .i64 pz, .int .i64 kz, .str spz, .str nmz, .list lz, .list lsz, .str txz])) := hez
          have YD : Hid (Den0 Fz wr (.slice az nz cz) (.list sz.1)) := by rw [HNZ.out]; exact yd
          clear hcut hez yd
          go_wp2_with (first
            | (go_at_call 39; refine (whole_new sz.1 Fz _ _ hltz YD.out z3 z1 (by omega)).mono ?_; rintro e w1 ⟨u, rfl, hG1, g, cg, cur, hu, hgc, hgm, hgl, hgh, hgs, hD⟩; rw [← HNZ.out] at hu hgc hgs; subst hu; obtain ⟨a', m', u4, vs4, ha', hm', hcu, o4, rd4, hset⟩ := hD.setS (by rw [← HNZ.out]; exact hiz) HEZ.out; obtain ⟨A4, C4, rfl, _, o4len, _⟩ := id o4; have oN : OwnG w1 a' m' 9 1 (.slice A4 nl C4) nl vs4 := (by rw [HNL.out]; exact o4); have B1 : Bk w1 g 28 cur := hgh; have k4 := (B1.cell (i * 7 + 5)).trans hcu; rw [← HNL.out] at k4)
            | (go_at_call 58; refine (oN.del1 rd4.1 hkl _ (by omega)).mono ?_; rintro e w2 ⟨bb, rfl, hb1, hb2, hg2, hsz2, oD⟩; have B2 : Bk w2 g 28 cur := B1.grown hg2 (by intro e; injection e with e; omega); have k4' := (B2.cell (i * 7 + 5)).trans hcu; have f4' := B2.free (i * 7 + 5); have y6 : w2.cell? ⟨g0, 1, none⟩ = some (.int .i64 sz.2.1) := (World.cell?_of_block (a := ⟨g0, 1, none⟩) (hg2.block g0 (Nat.lt_of_lt_of_le hgz hG1.size) (by intro e; injection e with e; omega))).trans ((hG1.cell (p := ⟨g0, 1, none⟩) hgz).trans y1))
            | fail)
          obtain ⟨w3, HW3⟩ : ∃ w3, w3 = w2.setCell ⟨g, i * 7 + 5, none⟩ (.slice A4 (nl - 1) C4) := ⟨_, rfl⟩
          rw [← HW3]
          have G3 : Ge wr w3 := by rw [HW3]; exact ge_put (below_of_grown_row hG1 hg2 (by omega)) hgl _
          have DEN : ∀ F' : Nat → Nat → Prop, (∀ b o, wr.heap.size ≤ b → b < w3.heap.size → F' b o) → Den0 F' w3 (.slice (some ⟨g, 0, none⟩) nz cg) (.list es') := by
            intro F' hF'
            have hnl : (lsz.eraseIdx k).length = nl - 1 := by rw [List.length_eraseIdx, ← HNL.out, if_pos hkl]
            have hsz3 : w3.heap.size = w1.heap.size := by rw [HW3, World.size_setCell]; exact hsz2
            have hcl : i * 7 + 5 < cur.size := by omega
            have hD2 := hset w2 (.slice A4 (nl - 1) C4) (lsz.eraseIdx k) (cutC 1 k vs4) bb (cur.setIfInBounds (i * 7 + 5) (.slice A4 (nl - 1) C4)) hg2 hb1 hb2 (by rw [hnl]; exact oD) (rd4.cut w5 o4len hkz) (fun j hj => by rw [Array.getElem?_setIfInBounds, if_neg (by omega)]) (by rw [Array.getElem?_setIfInBounds, if_pos rfl, if_pos hcl])
            have GZ := grown_put (grown_refl w2 (some g)) (p := ⟨g, i * 7 + 5, none⟩) rfl (.slice A4 (nl - 1) C4)
            have hl' : es'.length = nz := by rw [← HCUT.out, List.length_set, HNZ.out]
            refine DocR.den (lo := wr.heap.size) (hi := w1.heap.size) ⟨g, cg, cur.setIfInBounds (i * 7 + 5) (.slice A4 (nl - 1) C4), by rw [hl'], by rw [hl']; exact hgc, hgm, hgl, by rw [HW3]; exact B2.put _ _, by rw [hl']; simpa using hgs, ?_⟩ ?_ ?_
            · rw [HW3, hl', ← HCUT.out, HNZ.out]
              exact hD2.gb GZ (Nat.lt_succ_self g)
            · rw [← HCUT.out]
              exact cutS_nodes z1 HEZ.out
            · rintro b o hb (h | ⟨c', h⟩)
              · exact hF' b o hb (by rw [hsz3]; exact h)
              · simp only [Value.slice.injEq, Option.some.injEq, Addr.mk.injEq] at h
                exact hF' b o hb (by rw [hsz3, ← h.1.1]; exact (Array.getElem?_eq_some_iff.1 hgh).1)
          clear HW3
          go_wp2_with (go_at_call 56; refine (hSz.try_ hc htr G3 DEN).mono ?_; rintro e w4 ⟨rfl, hS4⟩)
          all_goals exact ⟨⟨k, _, s2, rfl, rfl, by omega, hS4, by rename_i hbt; simpa [hbt] using HI2⟩, by simp [intOf]⟩
end Go.Av
