/- Chapter 11: the law's copied: a document in new memory. Conditions: its list is read. -/
import Derived.Test.YtdbimjpjpgfeeaaDoorAv11c
import Derived.Deep.QuietTactic
import Derived.BigQuiet
set_option linter.unusedVariables false
set_option linter.unusedSimpArgs false
set_option maxRecDepth 100000
namespace Go.Av
open Go.Proofs Go.RowKit Go.Proofs.YtdbimjpjpgfeeaaDoor
theorem ei22 : EI Tryd.prog 22 26 7 112 := EI.mk (z := .agg #[.int .i64 0, .int .i64 0, .string ⟨#[]⟩, .string ⟨#[]⟩, .slice none 0 0, .slice none 0 0, .string ⟨#[]⟩]) (by kernel_rfl) (by kernel_rfl) rfl (by decide)
theorem ownR_form {w : World} {base size n : Nat} {e : TypeId} {v : Value} {xs : List Value} (h : OwnR w base e size v n xs) : ∃ A c, v = .slice A n c ∧ n ≤ c := by
  rcases h with ⟨rfl, _, A, rfl⟩ | ⟨_, ⟨rfl, rfl⟩ | ⟨g, cap, cur, rfl, _, _, hc, _⟩⟩
  · exact ⟨_, _, rfl, Nat.le_refl _⟩
  · exact ⟨_, _, rfl, Nat.le_refl _⟩
  · exact ⟨_, _, rfl, hc⟩
/-- A node, as data. -/
def isNode : D → Bool
  | .agg [.int .i64 _, .int .i64 _, .str _, .str _, .list as_, .list ss, .str _] => as_.all (fun e => (dcells e).length == 3) && ss.all (fun e => (dcells e).length == 1) && decide (as_.length ≤ 1000000) && decide (ss.length ≤ 1000000)
  | _ => false
theorem isNode_inv {d : D} (h : isNode d = true) : ∃ p k sp nm la ls tx, d = .agg [.int .i64 p, .int .i64 k, .str sp, .str nm, .list la, .list ls, .str tx] ∧ (∀ e ∈ la, (dcells e).length = 3) ∧ (∀ e ∈ ls, (dcells e).length = 1) ∧ la.length ≤ 1000000 ∧ ls.length ≤ 1000000 := by
  unfold isNode at h
  split at h
  · simp only [Bool.and_eq_true, List.all_eq_true, beq_iff_eq, decide_eq_true_eq] at h
    exact ⟨_, _, _, _, _, _, _, rfl, h.1.1.1, h.1.1.2, h.1.2, h.2⟩
  · cases h
theorem isNode_len {es : List D} (h : ∀ e ∈ es, isNode e = true) : ∀ e ∈ es, (dcells e).length = 7 := fun e he => by
  obtain ⟨p, k, sp, nm, la, ls, tx, rfl, _⟩ := isNode_inv (h e he)
  rfl
/-- A row that reads as nodes. -/
def RowN (F : Nat → Nat → Prop) (es : List D) (g : Nat) (wr : World) : Prop :=
  ∃ cur : Array Value, wr.heap[g]? = some (.cells cur 26 (0, 0)) ∧ ∀ (m : Nat) (x : D), (flat es)[m]? = some x → ∃ v : Value, cur[m]? = some v ∧ v.oneCell' = true ∧ Den0 (nx F (g + 1) wr) wr v x
theorem RowN.ge {F : Nat → Nat → Prop} {es : List D} {g : Nat} {w wr W : World} (h : RowN F es g wr) (hlt : Lt F w) (hw : w.heap.size ≤ wr.heap.size) (hb : Ge wr W) : RowN F es g W := by
  obtain ⟨cur, h1, h2⟩ := h
  refine ⟨cur, (hb.block g (Array.getElem?_eq_some_iff.1 h1).1).trans h1, fun m x hx => ?_⟩
  obtain ⟨v, h3, h4, h5⟩ := h2 m x hx
  refine ⟨v, h3, h4, h5.ext (S := fun _ => False) ⟨hb.os, hb.tape, hb.output, hb.size, fun b h _ => hb.block b h, fun b o h => h.imp id fun h => ⟨h.1, Nat.lt_of_lt_of_le h.2 hb.size⟩, fun b o h => ?_, fun b es c hf hm => ?_⟩⟩
  · have hb1 : b < wr.heap.size := h.elim (fun h => Nat.lt_of_lt_of_le (hlt b o h) hw) fun h => h.2
    unfold World.cell?
    rw [hb.block b hb1]
  · have hb1 : b < wr.heap.size := hf.elim (fun h => Nat.lt_of_lt_of_le (hlt b 0 h) hw) fun h => h.2
    exact (hb.block b hb1).trans hm
theorem RowN.put {F : Nat → Nat → Prop} {es : List D} {g m : Nat} {w wr : World} {v : Value} {x : D} (h : RowN F es g wr) (hlt : Lt F w) (hw : w.heap.size ≤ wr.heap.size) (hg : w.heap.size ≤ g) (hx : (flat es)[m]? = some x) (h1 : v.oneCell' = true) (hv : Den0 (nx F (g + 1) wr) wr v x) : RowN F es g (wr.setCell ⟨g, m, none⟩ v) := by
  obtain ⟨cur, h2, h3⟩ := h
  have hG : wr.grownBy (wr.setCell ⟨g, m, none⟩ v) (some g) := grown_put (grown_refl wr _) rfl v
  have keep : ∀ {u y}, Den0 (nx F (g + 1) wr) wr u y → Den0 (nx F (g + 1) (wr.setCell ⟨g, m, none⟩ v)) (wr.setCell ⟨g, m, none⟩ v) u y := fun hu => nx_keep hu hlt hw hg (Nat.lt_succ_self g) (Nat.le_refl _) hG
  refine ⟨cur.setIfInBounds m v, heap_setCell_same wr g m cur 26 v h2, fun m' x' hx' => ?_⟩
  obtain ⟨u, h4, h5, h6⟩ := h3 m' x' hx'
  by_cases hm : m' = m
  · subst hm
    rw [hx] at hx'
    obtain rfl := Option.some.inj hx'
    have hlt' := (Array.getElem?_eq_some_iff.1 h4).1
    exact ⟨v, by simp [hlt'], h1, keep hv⟩
  · exact ⟨u, by rw [Array.getElem?_setIfInBounds_ne (fun e => hm e.symm)]; exact h4, h5, keep h6⟩
theorem RowN.cell {F : Nat → Nat → Prop} {es : List D} {g : Nat} {wr : World} (h : RowN F es g wr) {m : Nat} {x : D} (hx : (flat es)[m]? = some x) : ∃ v, wr.cell? ⟨g, m, none⟩ = some v ∧ v.oneCell' = true ∧ Den0 (nx F (g + 1) wr) wr v x ∧ wr.frozen? ⟨g, m, none⟩ = false := by
  obtain ⟨cur, h1, h2⟩ := h
  obtain ⟨v, h3, h4, h5⟩ := h2 m x hx
  exact ⟨v, by rw [cell_of_row wr g m cur 26 (0, 0) h1]; exact h3, h4, h5, frozen_of_row wr g m cur 26 h1⟩
/-- The cells of a node of a list in memory. -/
theorem node_cells {F : Nat → Nat → Prop} {w : World} {a : Option Addr} {vs : List Value} {es : List D} (hes : ∀ e ∈ es, isNode e = true) (hvl : vs.length = es.length * 7) (hsl : Sl w w.heap.size a vs)
    (hx : ∀ (i : Nat) (v : Value) (x : D), vs[i]? = some v → (flat es)[i]? = some x → Den0 F w v x) {i : Nat} (hi : i < es.length) :
    ∃ b off la ls x4 c4 x5 c5, a = some ⟨b, off, none⟩ ∧ b < w.heap.size ∧ w.cell? ⟨b, off + (i * 7 + 4), none⟩ = some (.slice x4 la.length c4) ∧ w.cell? ⟨b, off + (i * 7 + 5), none⟩ = some (.slice x5 ls.length c5) ∧
      Den0 F w (.slice x4 la.length c4) (.list la) ∧ Den0 F w (.slice x5 ls.length c5) (.list ls) ∧ (flat es)[i * 7 + 4]? = some (.list la) ∧ (flat es)[i * 7 + 5]? = some (.list ls) ∧ (∀ e ∈ la, (dcells e).length = 3) ∧ (∀ e ∈ ls, (dcells e).length = 1) ∧ la.length ≤ 1000000 ∧ ls.length ≤ 1000000 := by
  have hei : es[i]? = some es[i] := List.getElem?_eq_getElem hi
  obtain ⟨p, k, sp, nm, la, ls, tx, he, h4, h5, h6, h7⟩ := isNode_inv (hes es[i] (List.getElem_mem hi))
  rw [he] at hei
  have f4 := flat_at (isNode_len hes) hei 4 (by decide)
  have f5 := flat_at (isNode_len hes) hei 5 (by decide)
  obtain ⟨b, off, ha, hb, hc⟩ := hsl (by intro e; rw [e] at hvl; simp at hvl; omega)
  have l4 : i * 7 + 4 < vs.length := by omega
  have l5 : i * 7 + 5 < vs.length := by omega
  have d4 := hx _ _ _ (List.getElem?_eq_getElem l4) f4
  have d5 := hx _ _ _ (List.getElem?_eq_getElem l5) f5
  have q4 := hc _ l4
  have q5 := hc _ l5
  generalize vs[i * 7 + 4] = v4 at *
  generalize vs[i * 7 + 5] = v5 at *
  have e4 : ∃ x c, v4 = .slice x la.length c := by
    cases d4 with
    | list a n c sz es vs h1 h2 h3 h4 h5 h6 h7 => exact ⟨a, c, by rw [h1]⟩
  have e5 : ∃ x c, v5 = .slice x ls.length c := by
    cases d5 with
    | list a n c sz es vs h1 h2 h3 h4 h5 h6 h7 => exact ⟨a, c, by rw [h1]⟩
  obtain ⟨x4, c4, rfl⟩ := e4
  obtain ⟨x5, c5, rfl⟩ := e5
  exact ⟨b, off, la, ls, x4, c4, x5, c5, ha, hb, q4, q5, d4, d5, f4, f5, h4, h5, h6, h7⟩
end Go.Av
