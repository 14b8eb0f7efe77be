/- The evaluator, in one text: over any program; no conditions but those that each law names. -/
import Derived.Test.YtaghfmgeccapbaaGreatAva
import Derived.LoopN
import Derived.Deep.Slices
import Derived.Deep.Fields
import Derived.HandedShaped
import Derived.OpenShut
import Derived.ShutString
import Derived.ChangeOld
import Derived.Below
import Derived.Carry
import Derived.SizedLaws
import Derived.Handed
import Derived.ProofKit
import Derived.LaidMore
import Derived.Lay
import Derived.SevenTiedAt
import Derived.Stop.Joined
set_option linter.unusedSimpArgs false
set_option linter.unusedVariables false
set_option linter.unusedSectionVars false
namespace Go.Av
open Go.RowKit
variable [Gs]

section
variable {P : Program} {n : Nat} {S0 : Gv} {F0 : Nat → Nat → Prop} {w0 : World} {ν : Nat → Nat → Nat} {F : Nat → Nat → Prop} {cls : Cl → Nat → Option Nat} {s : St} {a : Act} {w : World}
variable {K : Act → World → Prop} {Q : Exit → Act → World → Prop} {o : Oper} {call : Call} {E : List Tmp}

theorem run_store_row (g o : Nat) (t : TypeId) (fr : Nat × Nat) : ∀ (vs : List Value) (i : Nat) (cur : Array Value) (w : World), w.heap[g]? = some (.cells cur t fr) → (fr = (0, 0) ∨ cur.size ≤ fr.1) → o + i + vs.length ≤ cur.size → (∀ v ∈ vs, v.oneCell' = true) →
    (storeCells ⟨g, o, none⟩ vs i).run P w = .ok () (w.setRow g (cur.toList.take (o + i) ++ vs ++ cur.toList.drop (o + i + vs.length)).toArray)
  | [], i, cur, w, hg, _, _, _ => by
    simp only [storeCells, List.append_nil, List.length_nil, Nat.add_zero, List.take_append_drop, Array.toArray_toList]
    rw [setRow_self w g cur t fr hg]
    rfl
  | v :: rest, i, cur, w, hg, hf, hl, h1 => by
    have hi : o + i < cur.size := by simp at hl; omega
    have hcell : w.cell? ⟨g, o + i, none⟩ = some cur[o + i] := by simp [World.cell?, hg, hi]
    have hfro : w.frozen? ⟨g, o + i, none⟩ = false := by
      obtain ⟨lo, hi'⟩ := fr
      simp only [World.frozen?, hg, Bool.and_eq_false_iff, decide_eq_false_iff_not]
      rcases hf with hf | hf
      · injection hf with h2 h3
        right
        omega
      · left
        simp only at hf
        omega
    have hst : (store ((⟨g, o, none⟩ : Addr).add i) v).run P w = .ok () (w.setRow g (cur.setIfInBounds (o + i) v)) := by
      rw [addr_add, run_store P w _ v _ (h1 v (by simp)), hcell]
      simp [hfro, setCell_eq_setRow w g (o + i) cur t fr v hg]
    have ih := run_store_row g o t fr rest (i + 1) (cur.setIfInBounds (o + i) v) (w.setRow g (cur.setIfInBounds (o + i) v)) (setRow_heap w g cur _ t _ hg) (by simpa using hf) (by simp at hl ⊢; omega) (fun x hx => h1 x (by simp [hx]))
    simp only [storeCells, Sem.run_bind, hst, Result.andThen_ok, ih, setRow_setRow]
    congr 3
    have e := list_seg_step cur.toList (o + i) v rest (by simp at hl ⊢; omega)
    simpa [Array.toList_setIfInBounds, Nat.add_assoc] using e
theorem upd_le (c : Nat → Nat) (k j : Nat) : c j ≤ upd c k (c k + 1) j := by
  unfold upd
  split
  · rename_i h; rw [h]; exact Nat.le_succ _
  · exact Nat.le_refl _
theorem upd_lt (c : Nat → Nat) (k : Nat) : c k < upd c k (c k + 1) k := by
  unfold upd
  rw [if_pos rfl]
  exact Nat.lt_succ_self _
theorem Inv.adopt (hI : Inv P n S0 F0 w0 ν F cls s a w) {k : Nat} (hk1 : k < 1000000) {cells : List D} {rooms : List Room} {ncl : Nat → Option Nat} {F' : Nat → Nat → Prop} {w' : World} {g : Nat} (hE : Ext (fun _ => False) F w F' w') (hlt : Lt F' w') (hnew : ∀ b o, F' b o → F b o ∨ w.heap.size ≤ b)
    (hg : w.heap.size ≤ g) (hB : BoxAt F' w' g cells) (hBR : BRooms P F' w' g cells rooms ncl)
    (hn : ∀ i g', ncl i = some g' → g' < w'.heap.size ∧ (w0.heap.size ≤ g' ∨ S0.C g') ∧ (∀ j i', j ≠ .bx k → cls j i' ≠ some g') ∧ (∀ k' bx, s.box k' = some bx → ν k' bx.gen ≠ g') ∧ g ≠ g') (hni : ∀ i i' g', ncl i = some g' → ncl i' = some g' → i = i') :
    ∃ ν' cls', Inv P n S0 F0 w0 ν' F' cls' { s.setBox k (some ⟨s.ctr k, cells, rooms⟩) with ctr := upd s.ctr k (s.ctr k + 1) } a w' ∧ ν' k (s.ctr k) = g ∧ ∀ j i, j ≠ .bx k → cls' j i = cls j i := by
  refine ⟨fun k' g' => if k' = k ∧ g' = s.ctr k then g else ν k' g', fun j i => if j = .bx k then ncl i else cls j i, ?_, by simp, fun j i h => if_neg h⟩
  have hnew' : ∀ b o, F' b o → F b o ∨ w.heap.size ≤ b ∨ (fun _ => False) b := fun b o h => (hnew b o h).imp id .inl
  have hw0 : w0.heap.size ≤ w.heap.size := hI.ext.size
  have hbox : ∀ k' bx, upd s.box k (some ⟨s.ctr k, cells, rooms⟩) k' = some bx → (k' = k ∧ bx = ⟨s.ctr k, cells, rooms⟩) ∨ (k' ≠ k ∧ s.box k' = some bx) := by
    intro k' bx h
    simp only [upd] at h
    by_cases hk : k' = k
    · rw [if_pos hk] at h
      injection h with h
      exact .inl ⟨hk, h.symm⟩
    · rw [if_neg hk] at h
      exact .inr ⟨hk, h⟩
  have hν : ∀ k' bx, k' ≠ k → (if k' = k ∧ bx = s.ctr k then g else ν k' bx) = ν k' bx := fun k' bx h => if_neg fun h' => h h'.1
  have hcl : ∀ {j i g'}, (if j = .bx k then ncl i else cls j i) = some g' → (j = .bx k ∧ ncl i = some g') ∨ (j ≠ .bx k ∧ cls j i = some g') := by
    intro j i g' h
    by_cases hj : j = .bx k
    · rw [if_pos hj] at h; exact .inl ⟨hj, h⟩
    · rw [if_neg hj] at h; exact .inr ⟨hj, h⟩
  refine ⟨hI.ext.late hE (fun b h => h.elim), hlt, ?_, hI.size, hI.defers, ?_, ?_, ?_, ?_, ?_, ?_, ?_, ?_, ?_, hI.gok.ext hE⟩
  · intro b o h
    rcases hnew b o h with h | h
    · exact hI.news b o h
    · exact .inr (.inl (by omega))
  · intro j
    exact ((hI.slots j).ext hE).more (fun k' g hg => if_neg fun h => by obtain ⟨rfl, rfl⟩ := h; exact Nat.lt_irrefl _ hg) (upd_le s.ctr k)
  · intro j i
    have e : (if Cl.sl j = Cl.bx k then ncl i else cls (.sl j) i) = cls (.sl j) i := if_neg (by simp)
    show RoomAt P F' w' _ _ _ (if Cl.sl j = Cl.bx k then ncl i else cls (.sl j) i)
    rw [e]
    exact (hI.rooms j i).ext hE hnew' (fun _ _ h => h)
  · intro j i j' i' g' h1 h2
    rcases hcl h1 with ⟨e1, h1⟩ | ⟨e1, h1⟩ <;> rcases hcl h2 with ⟨e2, h2⟩ | ⟨e2, h2⟩
    · exact ⟨by rw [e1, e2], hni i i' g' h1 h2⟩
    · exact absurd h2 ((hn i g' h1).2.2.1 j' i' e2)
    · exact absurd h1 ((hn i' g' h2).2.2.1 j i e1)
    · exact hI.inj _ _ _ _ _ h1 h2
  · intro j i g' k' bx h1 h2
    have hq := hcl h1
    clear h1
    rcases hq with ⟨e1, h1⟩ | ⟨e1, h1⟩
    · rcases hbox k' bx h2 with ⟨rfl, rfl⟩ | ⟨hk, h2⟩
      · simp only [and_self, if_true]
        exact (hn i g' h1).2.2.2.2
      · simp only [hν k' bx.gen hk]
        exact (hn i g' h1).2.2.2.1 k' bx h2
    · obtain ⟨hlt', _⟩ := hI.loc j i g' h1
      rcases hbox k' bx h2 with ⟨rfl, rfl⟩ | ⟨hk, h2⟩
      · simp only [and_self, if_true]
        omega
      · simp only [hν k' bx.gen hk]
        exact hI.sep j i g' k' bx h1 h2
  · intro j i g' h
    rcases hcl h with ⟨e1, h1⟩ | ⟨e1, h1⟩
    · exact ⟨(hn i g' h1).1, (hn i g' h1).2.1⟩
    · obtain ⟨h1, h2⟩ := hI.loc j i g' h1
      exact ⟨Nat.lt_of_lt_of_le h1 hE.size, h2⟩
  · intro k' bx h2
    rcases hbox k' bx h2 with ⟨rfl, rfl⟩ | ⟨hk, h2⟩
    · simp only [and_self, if_true]
      exact ⟨hB, upd_lt s.ctr k', .inr (by omega)⟩
    · simp only [hν k' bx.gen hk]
      obtain ⟨h3, h4, h5⟩ := hI.boxes k' bx h2
      exact ⟨h3.ext hE hnew' (fun h => h), Nat.lt_of_lt_of_le h4 (upd_le s.ctr k k'), h5⟩
  · intro k' bx h2
    rcases hbox k' bx h2 with ⟨rfl, rfl⟩ | ⟨hk, h2⟩
    · simp only [and_self, if_true]
      exact hBR
    · simp only [Cl.bx.injEq, hk, if_false]
      exact (hI.brooms k' bx h2).ext hE (box_lt hI h2) hnew' (fun _ _ _ h => h) (fun h => h)
  · intro k1 b1 k2 b2 h1 h2 he
    rcases hbox k1 b1 h1 with ⟨e1, f1⟩ | ⟨hk1, h1'⟩ <;> rcases hbox k2 b2 h2 with ⟨e2, f2⟩ | ⟨hk2, h2'⟩
    · rw [e1, e2]
    · simp only [e1, f1, and_self, if_true, hν k2 b2.gen hk2] at he
      have := box_lt hI h2'
      omega
    · simp only [e2, f2, and_self, if_true, hν k1 b1.gen hk1] at he
      have := box_lt hI h1'
      omega
    · simp only [hν k1 b1.gen hk1, hν k2 b2.gen hk2] at he
      exact hI.binj k1 b1 k2 b2 h1' h2' he
  · intro i hi
    obtain ⟨bx, h1, h2, h3⟩ := hI.given i hi
    have hne : pid i ≠ k := by unfold pid; omega
    refine ⟨bx, ?_, h2, ?_⟩
    · simp only [St.setBox, upd, if_neg hne]
      exact h1
    · simp only [hne, false_and, if_false]
      exact h3
theorem Inv.newBox (hI : Inv P n S0 F0 w0 ν F cls s a w) {k : Nat} (hk1 : k < 1000000) {cs : List Value} {cells : List D} {rooms : List Room} {ncl : Nat → Option Nat} {t : TypeId} (hl : cs.length = cells.length) (h1 : ∀ v ∈ cs, v.oneCell' = true)
    (hd : ∀ (i : Nat) (v : Value) (x : D), cs[i]? = some v → cells[i]? = some x → Den0 F w v x) (hr : ∀ i, RoomAt P F w cs[i]? cells[i]? rooms[i]? (ncl i))
    (hn : ∀ i g', ncl i = some g' → g' < w.heap.size ∧ (w0.heap.size ≤ g' ∨ S0.C g') ∧ (∀ j i', j ≠ .bx k → cls j i' ≠ some g') ∧ (∀ k' bx, s.box k' = some bx → ν k' bx.gen ≠ g')) (hni : ∀ i i' g', ncl i = some g' → ncl i' = some g' → i = i') :
    ∃ ν' cls', Inv P n S0 F0 w0 ν' F cls' { s.setBox k (some ⟨s.ctr k, cells, rooms⟩) with ctr := upd s.ctr k (s.ctr k + 1) } a (w.alloc (.cells cs.toArray t)) ∧ ν' k (s.ctr k) = w.heap.size := by
  have hE := ext_alloc0 (w := w) hI.lt (.cells cs.toArray t)
  obtain ⟨ν', cls', h2, h3, _⟩ := hI.adopt hk1 (rooms := rooms) (ncl := ncl) hE (lt_alloc0 hI.lt _) (fun b o h => .inl h) (Nat.le_refl _)
    ⟨cs, t, [], (0, 0), ⟨by rw [List.append_nil]; exact heap_alloc_new w _, .inl rfl⟩, hl, h1, fun i v x hv hx => (hd i v x hv hx).ext hE, fun o hF => Nat.lt_irrefl _ (hI.lt _ _ hF)⟩
    (fun i => by rw [cells_alloc]; exact (hr i).ext hE (fun b o h => .inl h) (fun _ _ h => h))
    (fun i g' hg => by
      obtain ⟨q1, q2, q3, q4⟩ := hn i g' hg
      exact ⟨Nat.lt_of_lt_of_le q1 hE.size, q2, q3, q4, by omega⟩) hni
  exact ⟨ν', cls', h2, h3⟩
theorem Inv.turn (hI : Inv P n S0 F0 w0 ν F cls s a w) {k : Nat} {bx : Bx} (hb : s.box k = some bx) {cells : List D} {rooms : List Room} {ncl : Nat → Option Nat} {F' : Nat → Nat → Prop} {w' : World}
    (hE : Ext (fun b => ν k bx.gen = b ∨ ∃ i, cls (.bx k) i = some b) F w F' w') (hlt : Lt F' w')
    (hnew : ∀ b o, F' b o → F b o ∨ w.heap.size ≤ b ∨ ∃ i, cls (.bx k) i = some b) (hB : BoxAt F' w' (ν k bx.gen) cells) (hBR : BRooms P F' w' (ν k bx.gen) cells rooms ncl)
    (hn : ∀ i g', ncl i = some g' → g' < w'.heap.size ∧ (w0.heap.size ≤ g' ∨ S0.C g') ∧ (∀ j i', j ≠ .bx k → cls j i' ≠ some g') ∧ (∀ k' bx, s.box k' = some bx → ν k' bx.gen ≠ g')) (hni : ∀ i i' g', ncl i = some g' → ncl i' = some g' → i = i') :
    Inv P n S0 F0 w0 ν F' (fun j i => if j = .bx k then ncl i else cls j i) (s.setBox k (some ⟨bx.gen, cells, rooms⟩)) a w' := by
  have hnew' : ∀ b o, F' b o → F b o ∨ w.heap.size ≤ b ∨ (fun b => ν k bx.gen = b ∨ ∃ i, cls (.bx k) i = some b) b := fun b o h => (hnew b o h).imp id fun h => h.imp id .inr
  have hw0 : w0.heap.size ≤ w.heap.size := hI.ext.size
  have hbox : ∀ k' b', upd s.box k (some ⟨bx.gen, cells, rooms⟩) k' = some b' → (k' = k ∧ b' = ⟨bx.gen, cells, rooms⟩) ∨ (k' ≠ k ∧ s.box k' = some b') := by
    intro k' b' h
    simp only [upd] at h
    by_cases hk : k' = k
    · rw [if_pos hk] at h
      injection h with h
      exact .inl ⟨hk, h.symm⟩
    · rw [if_neg hk] at h
      exact .inr ⟨hk, h⟩
  have hcl : ∀ {j i g'}, (if j = .bx k then ncl i else cls j i) = some g' → (j = .bx k ∧ ncl i = some g') ∨ (j ≠ .bx k ∧ cls j i = some g') := by
    intro j i g' h
    by_cases hj : j = .bx k
    · rw [if_pos hj] at h; exact .inl ⟨hj, h⟩
    · rw [if_neg hj] at h; exact .inr ⟨hj, h⟩
  have hcT : ∀ j i g', j ≠ .bx k → cls j i = some g' → ¬ (ν k bx.gen = g' ∨ ∃ i, cls (.bx k) i = some g') := by
    rintro j i g' hj hg (h | ⟨i', h⟩)
    · exact hI.sep j i g' k bx hg hb h
    · exact hj (hI.inj _ _ _ _ _ hg h).1
  obtain ⟨_, hg, hS⟩ := hI.boxes k bx hb
  refine ⟨?_, hlt, ?_, hI.size, hI.defers, fun j => (hI.slots j).ext hE, fun j i => ?_, ?_, ?_, ?_, ?_, ?_, ?_, ?_, hI.gok.ext hE⟩
  · refine hI.ext.late hE fun b h => ?_
    rcases h with rfl | ⟨i, h⟩
    · exact hS.imp .inl id
    · exact (hI.loc _ _ _ h).2.symm.imp .inr id
  · intro b o h
    rcases hnew b o h with h | h | ⟨i, h⟩
    · exact hI.news b o h
    · exact .inr (.inl (by omega))
    · exact .inr (hI.loc _ _ _ h).2
  · have e : (if Cl.sl j = Cl.bx k then ncl i else cls (.sl j) i) = cls (.sl j) i := if_neg (by simp)
    show RoomAt P F' w' _ _ _ (if Cl.sl j = Cl.bx k then ncl i else cls (.sl j) i)
    rw [e]
    exact (hI.rooms j i).ext hE hnew' (fun g hg => hcT _ i g (by simp) hg)
  · intro j i j' i' g' h1 h2
    rcases hcl h1 with ⟨e1, h1⟩ | ⟨e1, h1⟩ <;> rcases hcl h2 with ⟨e2, h2⟩ | ⟨e2, h2⟩
    · exact ⟨by rw [e1, e2], hni i i' g' h1 h2⟩
    · exact absurd h2 ((hn i g' h1).2.2.1 j' i' e2)
    · exact absurd h1 ((hn i' g' h2).2.2.1 j i e1)
    · exact hI.inj _ _ _ _ _ h1 h2
  · intro j i g k' b' h1 h2
    have hq := hcl h1
    clear h1
    rcases hq with ⟨e1, h1⟩ | ⟨e1, h1⟩
    · rcases hbox k' b' h2 with ⟨rfl, rfl⟩ | ⟨_, h2⟩
      · exact (hn i g h1).2.2.2 k' bx hb
      · exact (hn i g h1).2.2.2 k' b' h2
    · rcases hbox k' b' h2 with ⟨rfl, rfl⟩ | ⟨_, h2⟩
      · exact hI.sep j i g k' bx h1 hb
      · exact hI.sep j i g k' b' h1 h2
  · intro j i g h
    rcases hcl h with ⟨e1, h1⟩ | ⟨e1, h1⟩
    · exact ⟨(hn i g h1).1, (hn i g h1).2.1⟩
    · obtain ⟨h1, h2⟩ := hI.loc j i g h1
      exact ⟨Nat.lt_of_lt_of_le h1 hE.size, h2⟩
  · intro k' b' h2
    rcases hbox k' b' h2 with ⟨rfl, rfl⟩ | ⟨hk, h2⟩
    · exact ⟨hB, hg, hS⟩
    · obtain ⟨h3, h4, h5⟩ := hI.boxes k' b' h2
      refine ⟨h3.ext hE hnew' ?_, h4, h5⟩
      rintro (h | ⟨i, h⟩)
      · exact hk (hI.binj k bx k' b' hb h2 h).symm
      · exact hI.sep _ _ _ _ _ h h2 rfl
  · intro k' b' h2
    rcases hbox k' b' h2 with ⟨rfl, rfl⟩ | ⟨hk, h2⟩
    · simp only [if_true]
      exact hBR
    · simp only [Cl.bx.injEq, hk, if_false]
      refine (hI.brooms k' b' h2).ext hE (box_lt hI h2) hnew' (fun i g hg => hcT _ i g (by simpa using hk) hg) ?_
      rintro (h | ⟨i, h⟩)
      · exact hk (hI.binj k bx k' b' hb h2 h).symm
      · exact hI.sep _ _ _ _ _ h h2 rfl
  · intro k1 b1 k2 b2 h1 h2 he
    rcases hbox k1 b1 h1 with ⟨e1, f1⟩ | ⟨hk1, h1'⟩ <;> rcases hbox k2 b2 h2 with ⟨e2, f2⟩ | ⟨hk2, h2'⟩
    · rw [e1, e2]
    · subst e1 f1
      exact hI.binj k1 bx k2 b2 hb h2' he
    · subst e2 f2
      exact hI.binj k1 b1 k2 bx h1' hb he
    · exact hI.binj k1 b1 k2 b2 h1' h2' he
  · intro i hi
    obtain ⟨b0, h1, h2, h3⟩ := hI.given i hi
    by_cases hk : pid i = k
    · subst hk
      rw [hb] at h1
      injection h1 with h1
      subst h1
      exact ⟨_, if_pos rfl, h2, h3⟩
    · exact ⟨b0, by simp only [St.setBox, upd, if_neg hk]; exact h1, h2, h3⟩
theorem Inv.put0 (hI : Inv P n S0 F0 w0 ν F cls s a w) {dst : Option Tmp} (hin : ∀ k, dst = some k → k < n) {v : Value} {d : D} (hv : Den s.ctr ν F w v d) : ∃ cls', Inv P n S0 F0 w0 ν F cls' (s.put dst d []) (a.put dst v) w :=
  hI.put (T := fun _ => False) hin (Ext.refl _ _ _) hI.lt (fun b o h => .inl h) hv (rooms_nil (P := P) (F := F) (w := w)) (fun b h => h.elim) (fun _ _ _ _ h => h) (fun _ _ _ h => h) (fun i g h => by cases h) (fun i i' g h => by cases h)

def Rep (P : Program) (n : Nat) (S0 : Gv) (F0 : Nat → Nat → Prop) (w0 : World) (s : St) (a : Act) (w : World) : Prop := ∃ ν F cls, Inv P n S0 F0 w0 ν F cls s a w

def ocl (cls : Cl → Nat → Option Nat) : Operand → Nat → Option Nat
  | .tmp t => cls (.sl t)
  | _ => fun _ => none
theorem oroom_ok (hI : Inv P n S0 F0 w0 ν F cls s a w) (x : Operand) : RoomsOK P F w (a.eval x) (get s.slot x) (oroom s.room x) (ocl cls x) := by
  cases x with
  | tmp t => exact hI.rooms t
  | const v => exact vroom_ok v
  | _ => exact fun i => RoomAt.none_
theorem ocl_some {x : Operand} {i g : Nat} (h : ocl cls x i = some g) : ∃ t, x = .tmp t ∧ cls (.sl t) i = some g := by
  cases x with
  | tmp t => exact ⟨t, rfl, h⟩
  | _ => cases h
theorem ocl_took {x : Operand} {i g : Nat} (h : ocl cls x i = some g) : took cls (given x) g := by
  obtain ⟨t, rfl, h⟩ := ocl_some h
  exact ⟨i, h⟩
theorem comp_cells {v : Value} {d : D} (h : Den0 F w v d) : ∀ i, i < (dcells d).length → comp v i = v.cells.toList[i]? ∧ dcomp d i = (dcells d)[i]? := by
  have one : ∀ {v : Value} {d : D}, dcells d = [d] → v.cells = #[v] → comp v 0 = some v → dcomp d 0 = some d → ∀ i, i < (dcells d).length → comp v i = v.cells.toList[i]? ∧ dcomp d i = (dcells d)[i]? := by
    intro v d h1 h2 h3 h4 i hi
    rw [h1] at hi ⊢
    rw [h2]
    have : i = 0 := by simp at hi; omega
    subst this
    exact ⟨by rw [h3]; rfl, by rw [h4]; rfl⟩
  cases h with
  | agg vs cs h1 h2 h3 => exact fun i _ => ⟨by simp [comp, Value.cells], rfl⟩
  | con v hv =>
    refine one rfl ?_ ?_ rfl
    · cases v <;> first | rfl | simp [isCon] at hv
    · cases v <;> first | rfl | simp [isCon] at hv
  | _ => exact one rfl rfl rfl rfl
theorem padR_at (rs : List Room) (n i : Nat) (hi : i < n) : (padR rs n)[i]? = rs[i]? ∨ (rs[i]? = none ∧ (padR rs n)[i]? = some .no) := by
  unfold padR
  by_cases h : i < rs.length
  · exact .inl (List.getElem?_append_left h)
  · right
    refine ⟨List.getElem?_eq_none (by omega), ?_⟩
    rw [List.getElem?_append_right (by omega), List.getElem?_replicate, if_pos (by omega)]
theorem padR_len (rs : List Room) (n : Nat) : n ≤ (padR rs n).length := by
  unfold padR
  simp
  omega
theorem RoomAt.pad {v : Option Value} {d : Option D} {rs : List Room} {n i : Nat} {cl : Option Nat} (hi : i < n) (h : RoomAt P F w v d rs[i]? cl) : RoomAt P F w v d (padR rs n)[i]? cl := by
  rcases padR_at rs n i hi with e | ⟨e1, e2⟩
  · rw [e]; exact h
  · rw [e1] at h
    rw [e2]
    exact h
theorem putR_ok {off m : Nat} {rs qs : List Room} {V V' U : Nat → Option Value} {C C' E : Nat → Option D} {cl cq : Nat → Option Nat} (h1 : ∀ i, RoomAt P F w (V i) (C i) rs[i]? (cl i)) (h2 : ∀ i, i < m → RoomAt P F w (U i) (E i) qs[i]? (cq i))
    (hv1 : ∀ i, (i < off ∨ off + m ≤ i) → V' i = V i ∧ C' i = C i) (hv2 : ∀ i, i < m → V' (off + i) = U i ∧ C' (off + i) = E i) :
    ∀ i, RoomAt P F w (V' i) (C' i) (putR rs off m qs)[i]? (if i < off then cl i else if i < off + m then cq (i - off) else cl i) := by
  intro i
  unfold putR
  have l1 := padR_len rs off
  have l2 := padR_len qs m
  have e1 : ((padR rs off).take off).length = off := by simp; omega
  have e2 : ((padR qs m).take m).length = m := by simp; omega
  by_cases hi : i < off
  · rw [if_pos hi, (hv1 i (.inl hi)).1, (hv1 i (.inl hi)).2, List.append_assoc, List.getElem?_append_left (by omega), List.getElem?_take, if_pos hi]
    exact (h1 i).pad hi
  · rw [if_neg hi]
    by_cases hi2 : i < off + m
    · rw [if_pos hi2, List.getElem?_append_left (by simp only [List.length_append]; omega), List.getElem?_append_right (by omega), e1, List.getElem?_take, if_pos (by omega)]
      have e : i = off + (i - off) := by omega
      have := hv2 (i - off) (by omega)
      rw [← e] at this
      rw [this.1, this.2]
      exact (h2 _ (by omega)).pad (by omega)
    · rw [if_neg hi2, (hv1 i (.inr (by omega))).1, (hv1 i (.inr (by omega))).2, List.getElem?_append_right (by simp only [List.length_append]; omega), List.getElem?_drop]
      have : off + m + (i - (((padR rs off).take off) ++ ((padR qs m).take m)).length) = i := by simp only [List.length_append]; omega
      rw [this]
      exact h1 i
theorem zrooms_ok {t : TypeId} {zv : Value} {z : List D} {it : TypeInfo} (hit : P.info? t = some it) (hz0 : it.zero = some zv) (hz : zeroCells zv = some z) : ∀ i : Nat, RoomAt P F w zv.cells.toList[i]? z[i]? (zrooms P t)[i]? none := by
  intro i
  have e : zrooms P t = vroom zv := by unfold zrooms; simp [hit, hz0]
  rw [e]
  cases hc : (vroom zv)[i]? with
  | none => exact RoomAt.none_
  | some q =>
    by_cases hq : q = .no
    · subst hq; rfl
    · obtain ⟨rfl, h2, h3⟩ := vroom_full hc hq
      exact ⟨rfl, [], none, by simpa using h2, h3 z hz⟩
theorem stepBox_sound (hI : Inv P n S0 F0 w0 ν F cls s a w) {s' : St} (hin : ∀ k, o.dst = some k → k < n) (h : stepBox P o s = some s') (hK : ∀ a' w', Rep P n S0 F0 w0 s' a' w' → K a' w') : o.wp P a w K Q := by
  obtain ⟨dst, op, ty, pos, after, guard⟩ := o
  have G := fun x => get_den hI.gok hI.slots (a := a) x
  cases op with
  | alloc t =>
    simp only [stepBox] at h
    cases dst with
    | none => simp at h
    | some k =>
    split at h
    · rename_i k' z e0 hz
      injection e0 with e0
      subst e0
      split at h
      · rename_i hleaf
        obtain ⟨hleaf, hk1⟩ := hleaf
        injection h with h
        subst h
        unfold zeroOf at hz
        obtain ⟨it, hit, hz⟩ := Option.bind_eq_some_iff.1 hz
        obtain ⟨zv, hz0, hz⟩ := Option.bind_eq_some_iff.1 hz
        obtain ⟨z1, z2, z3⟩ := zero_den (c := s.ctr) (ν := ν) (F := F) (w := w) hz
        rw [List.all_eq_true] at hleaf
        obtain ⟨ν', cls1, hI', hν⟩ := hI.newBox (k := k) hk1 (t := t) (ncl := fun _ => none) z1 z2 (fun i v x hv hx => (z3 i v x hv hx).leaf_ (hleaf x (List.mem_of_getElem? hx))) (zrooms_ok hit hz0 hz) (fun i g h => by cases h) (fun i i' g h => by cases h)
        obtain ⟨cls', hI''⟩ := hI'.put0 hin (dst := some k) (v := .pointer (some ⟨w.heap.size, 0, none⟩)) (d := .ptr k (s.ctr k) 0) (by rw [← hν]; exact .ptr k (s.ctr k) 0 (upd_lt s.ctr k))
        have hrun : (execOp a.eval ⟨some k, .alloc t, ty, pos, after, guard⟩).run P w = .ok (.value (.pointer (some ⟨w.heap.size, 0, none⟩))) (w.alloc (.cells zv.cells.toList.toArray t)) := by
          refine exec_v ?_
          simp [Instr.alloc, zeroValue, typeInfo, hit, hz0, newVar, newRow]
        unfold Oper.wp
        rw [hrun, Oper.upon_value]
        exact hK _ _ ⟨_, _, _, hI''⟩
      · cases h
    · cases h
  | box t x =>
    simp only [stepBox] at h
    cases dst with
    | none => simp at h
    | some k =>
    split at h
    · rename_i k' m e0 hm
      injection e0 with e0
      subst e0
      split at h
      · rename_i hc
        obtain ⟨hc1, hc2, hk1⟩ := hc
        injection h with h
        subst h
        have hp := (G x).pureB_ hc2
        obtain ⟨z1, z2, z3⟩ := hp.cells
        have hcc := comp_cells hp
        have hro := oroom_ok hI x
        have hD := hI.demote (given x)
        have hcl : ∀ i g, (if i < (dcells (get s.slot x)).length then ocl cls x i else none) = some g → ocl cls x i = some g := fun i g h => by
          split at h
          · exact h
          · cases h
        obtain ⟨ν', cls1, hI', hν⟩ := hD.newBox (k := k) hk1 (t := t) (rooms := (padR (oroom s.room x) m).take m) (ncl := fun i => if i < (dcells (get s.slot x)).length then ocl cls x i else none) z1 z2 z3 (fun i => by
            by_cases hi : i < (dcells (get s.slot x)).length
            · rw [if_pos hi, ← (hcc i hi).1, ← (hcc i hi).2, List.getElem?_take, if_pos (by omega)]
              exact (hro i).pad (by omega)
            · rw [if_neg hi, List.getElem?_eq_none (l := (padR (oroom s.room x) m).take m) (by simp; omega)]
              exact RoomAt.none_)
          (fun i g h => by
            have h := hcl i g h
            obtain ⟨t', _, h'⟩ := ocl_some h
            refine ⟨(hI.loc _ _ _ h').1, (hI.loc _ _ _ h').2, fun j i' _ hj => unclaim_took hI.inj hj (ocl_took h), fun k' bx hb => ?_⟩
            rw [demote_box] at hb
            exact hI.sep _ _ _ _ _ h' hb)
          (fun i i' g h h' => by
            obtain ⟨t1, e1, h1⟩ := ocl_some (hcl i g h)
            obtain ⟨t2, e2, h2⟩ := ocl_some (hcl i' g h')
            exact (hI.inj _ _ _ _ _ h1 h2).2)
        rw [demote_ctr] at hI' hν
        obtain ⟨cls', hI''⟩ := hI'.put0 hin (dst := some k) (v := .pointer (some ⟨w.heap.size, 0, none⟩)) (d := .ptr k (s.ctr k) 0) (by rw [← hν]; exact .ptr k (s.ctr k) 0 (upd_lt s.ctr k))
        have hrun : (execOp a.eval ⟨some k, .box t x, ty, pos, after, guard⟩).run P w = .ok (.value (.pointer (some ⟨w.heap.size, 0, none⟩))) (w.alloc (.cells (a.eval x).cells.toList.toArray t)) := by
          refine exec_v ?_
          simp [Instr.box, newVar, newRow]
        unfold Oper.wp
        rw [hrun, Oper.upon_value]
        exact hK _ _ ⟨ν', F, cls', hI''⟩
      · cases h
    · cases h
  | store t x y =>
    simp only [stepBox] at h
    split at h
    · rename_i k g off m hx hm
      split at h
      · rename_i bx hb
        split at h
        · rename_i hc
          obtain ⟨rfl, hc2, hc3, hc4⟩ := hc
          injection h with h
          subst h
          have hg := G x
          rw [hx] at hg
          obtain ⟨hv, _⟩ := hg.ptr_
          have hp := (G y).pureB_ hc4
          obtain ⟨z1, z2, z3⟩ := hp.cells
          have hcc := comp_cells hp
          have hro := oroom_ok hI y
          have hbr := hI.brooms k bx hb
          obtain ⟨⟨vs, te, rest, fr, ⟨h1, h0⟩, h2, h3, h4, h5⟩, _⟩ := hI.boxes k bx hb
          have hfit0 : off + (a.eval y).cells.toList.length ≤ vs.length := by omega
          have hfit : off + (a.eval y).cells.toList.length ≤ (vs ++ rest).toArray.size := by simp only [List.size_toArray, List.length_append]; omega
          have hst := run_store_row (P := P) (ν k bx.gen) off te fr (a.eval y).cells.toList 0 (vs ++ rest).toArray w h1 (by simpa using h0) (by simpa using hfit) z2
          simp only [Nat.add_zero] at hst
          have hsplit : (vs ++ rest).take off ++ (a.eval y).cells.toList ++ (vs ++ rest).drop (off + (a.eval y).cells.toList.length) = (vs.take off ++ (a.eval y).cells.toList ++ vs.drop (off + (a.eval y).cells.toList.length)) ++ rest := by
            rw [List.take_append_of_le_length (by omega), List.drop_append_of_le_length (by omega)]
            simp
          rw [hsplit] at hst
          have hlen0 : (vs.take off ++ (a.eval y).cells.toList ++ vs.drop (off + (a.eval y).cells.toList.length)).length = vs.length := by
            simp only [List.length_append, List.length_take, List.length_drop]
            omega
          have hsz : (a.eval y).cells.size = m := by rw [← hc2, ← z1]; simp
          have hrun : (execOp a.eval ⟨dst, .store t x y, ty, pos, after, guard⟩).run P w = .ok .skip (w.setRow (ν k bx.gen) ((vs.take off ++ (a.eval y).cells.toList ++ vs.drop (off + (a.eval y).cells.toList.length)) ++ rest).toArray) := by
            simp only [execOp, hv, Instr.storeAt, Instr.sureAddr, storeVar, Sem.run_bind, Sem.run_pure, Result.andThen_ok, run_sizeOf_ hm]
            rw [if_neg (by simp [hsz])]
            rw [hst]
            rfl
          have hpw := pointwise_laid (off := off) h2 h4 z1 z3
          rw [hc2] at hpw
          have hheap := setRow_heap w (ν k bx.gen) (vs ++ rest).toArray ((vs.take off ++ (a.eval y).cells.toList ++ vs.drop (off + (a.eval y).cells.toList.length)) ++ rest).toArray te fr h1
          have hE : Ext (fun b => ν k bx.gen = b) F w F (w.setRow (ν k bx.gen) ((vs.take off ++ (a.eval y).cells.toList ++ vs.drop (off + (a.eval y).cells.toList.length)) ++ rest).toArray) := by
            refine ⟨rfl, rfl, rfl, by simp [World.setRow], fun b _ hne => setRow_other w _ b _ (fun e => hne e.symm), fun b o h => h, fun b o hF => ?_, fun b es0 ck hF hm => (setRow_other w _ b _ (fun e => by subst e; exact h5 0 hF)).trans hm⟩
            exact World.cell?_of_block (a := ⟨b, o, none⟩) (setRow_other w _ b _ (fun e => by subst e; exact h5 o hF))
          have hD := hI.demote (given y)
          have hb' : (s.demote (given y)).box k = some bx := by rw [demote_box]; exact hb
          have hyl : (a.eval y).cells.toList.length = m := by omega
          have ho0 : w.cell? ⟨ν k bx.gen, 0, none⟩ = w.cell? ⟨ν k bx.gen, 0, none⟩ := rfl
          have hcell : ∀ i, w.cell? ⟨ν k bx.gen, i, none⟩ = (vs ++ rest)[i]? := fun i => by rw [cell_of_row w _ _ _ _ _ h1]; simp
          have hcell' : ∀ i, (w.setRow (ν k bx.gen) ((vs.take off ++ (a.eval y).cells.toList ++ vs.drop (off + (a.eval y).cells.toList.length)) ++ rest).toArray).cell? ⟨ν k bx.gen, i, none⟩ = (vs.take off ++ (a.eval y).cells.toList ++ vs.drop (off + m) ++ rest)[i]? := fun i => by rw [cell_of_row _ _ _ _ _ _ hheap, hyl]; simp
          have hkeep : ∀ {v d r cl}, RoomAt P F w v d r cl → (∀ g, cl = some g → ¬ ν k bx.gen = g) → RoomAt P F (w.setRow (ν k bx.gen) ((vs.take off ++ (a.eval y).cells.toList ++ vs.drop (off + (a.eval y).cells.toList.length)) ++ rest).toArray) v d r cl := fun h hc => h.ext hE (fun b o h => .inl h) hc
          have hrooms := putR_ok (P := P) (F := F) (w := w.setRow (ν k bx.gen) ((vs.take off ++ (a.eval y).cells.toList ++ vs.drop (off + (a.eval y).cells.toList.length)) ++ rest).toArray) (off := off) (m := m) (rs := bx.rooms) (qs := oroom s.room y)
            (V := fun i => w.cell? ⟨ν k bx.gen, i, none⟩) (C := fun i => bx.cells[i]?) (U := fun i => (a.eval y).cells.toList[i]?) (E := fun i => (dcells (get s.slot y))[i]?)
            (V' := fun i => (w.setRow (ν k bx.gen) ((vs.take off ++ (a.eval y).cells.toList ++ vs.drop (off + (a.eval y).cells.toList.length)) ++ rest).toArray).cell? ⟨ν k bx.gen, i, none⟩) (C' := fun i => (bx.cells.take off ++ dcells (get s.slot y) ++ bx.cells.drop (off + m))[i]?) (cl := cls (.bx k)) (cq := ocl cls y)
            (fun i => hkeep (hbr i) fun g hg => hI.sep _ _ _ _ _ hg hb)
            (fun i hi => hkeep (by rw [← (hcc i (by omega)).1, ← (hcc i (by omega)).2]; exact hro i) fun g hg => by
              obtain ⟨t', _, h'⟩ := ocl_some hg
              exact hI.sep _ _ _ _ _ h' hb)
            (fun i hi => by
              refine ⟨?_, ?_⟩
              · simp only [hcell, hcell']
                rcases hi with hi | hi
                · rw [List.append_assoc, List.append_assoc, List.getElem?_append_left (by simp; omega), List.getElem?_take, if_pos hi, List.getElem?_append_left (by omega)]
                · by_cases hi2 : i < vs.length
                  · rw [List.getElem?_append_left (by simp; omega), List.getElem?_append_right (by simp; omega), List.getElem?_drop, List.getElem?_append_left (by omega)]
                    congr 1
                    simp
                    omega
                  · rw [List.getElem?_append_right (by simp; omega), List.getElem?_append_right (by omega)]
                    congr 1
                    simp
                    omega
              · rcases hi with hi | hi
                · rw [List.append_assoc, List.getElem?_append_left (by simp; omega), List.getElem?_take, if_pos hi]
                · rw [List.getElem?_append_right (by simp; omega), List.getElem?_drop]
                  congr 1
                  simp
                  omega)
            (fun i hi => by
              refine ⟨?_, ?_⟩
              · simp only [hcell']
                rw [List.getElem?_append_left (by simp; omega), List.getElem?_append_left (by simp; omega), List.getElem?_append_right (by simp; omega)]
                congr 1
                simp
                omega
              · rw [List.getElem?_append_left (by simp; omega), List.getElem?_append_right (by simp; omega)]
                congr 1
                simp
                omega)
          have hcls : ∀ {i g}, (if i < off then cls (.bx k) i else if i < off + m then ocl cls y (i - off) else cls (.bx k) i) = some g → cls (.bx k) i = some g ∨ (off ≤ i ∧ i < off + m ∧ ocl cls y (i - off) = some g) := by
            intro i g h
            split at h
            · exact .inl h
            · split at h
              · exact .inr ⟨by omega, by omega, h⟩
              · exact .inl h
          have hI' := hD.turn hb' (cells := bx.cells.take off ++ dcells (get s.slot y) ++ bx.cells.drop (off + m)) (rooms := putR bx.rooms off m (oroom s.room y)) (ncl := fun i => if i < off then cls (.bx k) i else if i < off + m then ocl cls y (i - off) else cls (.bx k) i) (hE.weaken fun b _ h => .inl h) (by
            intro b o hF
            have := hI.lt b o hF
            simpa [World.setRow] using this) (fun b o h => .inl h) ⟨_, te, rest, fr, ⟨hheap, h0.imp id fun h => by rw [List.length_append, hlen0, ← List.length_append]; exact h⟩, hpw.1, by
              intro v hv
              simp only [List.mem_append] at hv
              rcases hv with (hv | hv) | hv
              · exact h3 v (List.mem_of_mem_take hv)
              · exact z2 v hv
              · exact h3 v (List.mem_of_mem_drop hv), fun i v x hv hx => (hpw.2 i v x hv hx).ext hE, h5⟩ hrooms (by
              intro i g' hg'
              have hfar : ∀ {j i'}, j ≠ .bx k → unclaim cls (given y) j i' = some g' → False := by
                intro j i' hj hj'
                rcases hcls hg' with h | ⟨_, _, h⟩
                · exact hj (hI.inj _ _ _ _ _ (unclaim_some hj') h).1
                · exact unclaim_took hI.inj hj' (ocl_took h)
              have hcl : ∃ j i', cls j i' = some g' := by
                rcases hcls hg' with h | ⟨_, _, h⟩
                · exact ⟨_, _, h⟩
                · obtain ⟨t', _, h⟩ := ocl_some h
                  exact ⟨_, _, h⟩
              obtain ⟨j0, i0, hcl⟩ := hcl
              refine ⟨Nat.lt_of_lt_of_le (hI.loc _ _ _ hcl).1 hE.size, (hI.loc _ _ _ hcl).2, fun j i' hj hj' => hfar hj hj', fun k' b' hb' => ?_⟩
              rw [demote_box] at hb'
              exact hI.sep _ _ _ _ _ hcl hb') (by
              intro i i' g' h h'
              rcases hcls h with h | ⟨q1, q2, h⟩ <;> rcases hcls h' with h' | ⟨q3, q4, h'⟩
              · exact (hI.inj _ _ _ _ _ h h').2
              · obtain ⟨t', _, h'⟩ := ocl_some h'
                exact absurd (hI.inj _ _ _ _ _ h h').1 (by simp)
              · obtain ⟨t', _, h⟩ := ocl_some h
                exact absurd (hI.inj _ _ _ _ _ h h').1 (by simp)
              · obtain ⟨t1, e1, h⟩ := ocl_some h
                obtain ⟨t2, e2, h'⟩ := ocl_some h'
                have := (hI.inj _ _ _ _ _ h h').2
                omega)
          obtain ⟨cls', hI''⟩ := hI'.put0 hin (dst := dst) (v := undef) (d := .tuple []) (.tuple [] [] rfl (fun i v x hv => by simp at hv))
          unfold Oper.wp
          rw [hrun, Oper.upon_skip]
          exact hK _ _ ⟨_, _, _, hI''⟩
        · cases h
      · cases h
    · cases h
  | _ => simp [stepBox] at h
theorem take_sound (hI : Inv P n S0 F0 w0 ν F cls s a w) {s' : St} (hin : ∀ k, o.dst = some k → k < n) (h : stepTake P o s = some s') (hK : ∀ a' w', Rep P n S0 F0 w0 s' a' w' → K a' w') : o.wp P a w K Q := by
  obtain ⟨dst, op, ty, pos, after, guard⟩ := o
  have G := fun x => get_den hI.gok hI.slots (a := a) x
  cases op with
  | load t x =>
    simp only [stepTake] at h
    split at h
    · rename_i k g off hx
      split at h
      · rename_i bx hb
        split at h
        · rename_i hg
          split at h
          · rename_i es hd
            injection h with h
            subst h hg
            have hgx := G x
            rw [hx] at hgx
            obtain ⟨hv, _⟩ := hgx.ptr_
            have hbr := hI.brooms k bx hb off
            obtain ⟨⟨vs, te, rest, fr, ⟨h1, h0⟩, h2, h3, h4, h5⟩, _⟩ := hI.boxes k bx hb
            have hcellD : bx.cells[off]? = some (.list es) := by
              unfold dpart at hd
              split at hd
              · split at hd
                · injection hd with hd; cases hd
                · cases hd
              · exact hd
              · cases hd
            obtain ⟨v0, hv0⟩ := getElem?_of_len h2.symm hcellD
            have hlt := (List.getElem?_eq_some_iff.1 hv0).1
            have hcell : w.cell? ⟨ν k bx.gen, off, none⟩ = some v0 := by
              rw [cell_of_row w _ _ _ _ _ h1]
              simpa [List.getElem?_append_left hlt] using hv0
            obtain ⟨u, hrun, hdu⟩ := box_load hI hgx hb rfl hd
            have hu : u = v0 := by
              have hagg : aggOf P t = some false := by
                unfold dpart at hd
                split at hd
                · split at hd
                  · injection hd with hd; cases hd
                  · cases hd
                · assumption
                · cases hd
              have hrun2 : (Instr.loadAt t (a.eval x)).run P w = .ok v0 w := by
                rw [hv]
                simp only [Instr.loadAt, Instr.sureAddr, Sem.run_bind, Sem.run_pure, Result.andThen_ok, loadVar, run_isAgg_ hagg]
                simp [run_load, hcell]
              rw [hrun2] at hrun
              injection hrun with hrun
              exact hrun.symm
            subst hu
            have hI1 := hI.clear hb off
            have hden0 : Den0 F w u (.list es) := hdu
            obtain ⟨cls', hI2⟩ := hI1.put (T := fun _ => False) hin (Ext.refl _ _ _) hI.lt (fun b o h => .inl h) (dst := dst) (v := u) (d := .list es) (r := [(bx.rooms[off]?).getD .no]) (ncl := fun i => if i = 0 then cls (.bx k) off else none) (.pure _ _ hden0) (by
              intro i
              cases i with
              | zero =>
                rw [hcell, hcellD] at hbr
                simp only [comp_zero_list hden0, dcomp, List.getElem?_cons_zero, if_true]
                cases hr : bx.rooms[off]? with
                | none => rw [hr] at hbr; exact hbr
                | some r => rw [hr] at hbr; exact hbr
              | succ i => simp [RoomAt]) (fun b h => h.elim) (fun _ _ _ _ h => h) (fun _ _ _ h => h) (by
              intro i g hg
              split at hg
              · refine ⟨(hI.loc _ _ _ hg).1, (hI.loc _ _ _ hg).2, fun j i' hj => ?_, fun k' b' hb' he => ?_⟩
                · split at hj
                  · cases hj
                  · rename_i hne
                    obtain ⟨e1, e2⟩ := hI.inj _ _ _ _ _ hj hg
                    exact hne ⟨e1, e2⟩
                · simp only [St.setBox, upd] at hb'
                  split at hb'
                  · rename_i hk
                    injection hb' with hb'
                    subst hb' hk
                    exact hI.sep _ _ _ _ _ hg hb he
                  · exact hI.sep _ _ _ _ _ hg hb' he
              · cases hg) (by
              intro i i' g hg hg'
              split at hg
              · split at hg'
                · omega
                · cases hg'
              · cases hg)
            unfold Oper.wp
            rw [show (execOp a.eval ⟨dst, .load t x, ty, pos, after, guard⟩).run P w = .ok (.value u) w from exec_v hrun, Oper.upon_value]
            exact hK _ _ ⟨_, _, _, hI2⟩
          · cases h
        · cases h
      · cases h
    · cases h
  | _ => simp [stepTake] at h

theorem leafN_mono : ∀ (n : Nat) (d : D), leafN n d = true → leafN (n + 1) d = true
  | _, .bool _, _ | _, .int _ _, _ | _, .str _, _ | _, .con _, _ | _, .list _, _ | _, .fix _ _, _ | _, .imap _ _, _ => by simp [leafN]
  | 0, .iface _ _, h | 0, .func _ _ _, h => by simp [leafN] at h
  | n + 1, .iface t d, h => by
    simp only [leafN] at h ⊢
    exact leafN_mono n d h
  | n + 1, .func fn f c, h => by
    simp only [leafN, Bool.and_eq_true, List.all_eq_true] at h ⊢
    exact ⟨fun x hx => leafN_mono n x (h.1 x hx), fun x hx => leafN_mono n x (h.2 x hx)⟩
  | n, .bad, h | n, .agg _, h | n, .tuple _, h | n, .ptr _ _ _, h | n, .row _ _ _ _ _, h => by cases n <;> simp [leafN] at h
theorem ren1_den {k g : Nat} {μ : Mu} (hμ : μ.bl 0 = ν k g) {v : Value} {d : D} (hd : Den s.ctr ν F w v d) (h : argOk1 d = true) : Den (fun _ => 1) (argNu μ) F w v (ren1 k g d) := by
  unfold argOk1 at h
  cases d with
  | ptr k' g' off =>
    simp only [ren1]
    split
    · rename_i he
      obtain ⟨rfl, rfl⟩ := he
      obtain ⟨rfl, _⟩ := hd.ptr_
      have : ν k' g' = argNu μ (pid 0) 0 := by unfold argNu pid; simpa using hμ.symm
      rw [this]
      exact .ptr (pid 0) 0 off (by decide)
    · exact .bad _
  | bad => exact .bad _
  | _ => exact .pure _ _ (hd.leaf_ (by simpa using h))
theorem ren_den {k g : Nat} {μ : Mu} (hμ : μ.bl 0 = ν k g) {v : Value} {d : D} (hd : Den s.ctr ν F w v d) (h : argOk d = true) : Den (fun _ => 1) (argNu μ) F w v (ren k g d) := by
  have leafs : ∀ {x : D}, leaf x = true → argOk1 x = true := fun hx => by unfold argOk1; rw [hx]; rfl
  cases d with
  | func fn f cp =>
    obtain ⟨fs, cs, rfl, l1, l2, d1, d2⟩ := hd.func_
    have hok : (∀ x ∈ f, argOk1 x = true) ∧ ∀ x ∈ cp, argOk1 x = true := by
      unfold argOk at h
      simp only [Bool.or_eq_true, Bool.and_eq_true, List.all_eq_true] at h
      rcases h with h | h
      · simp only [pureB, leaf, leafN, Bool.and_eq_true, List.all_eq_true] at h
        exact ⟨fun x hx => leafs (leafN_mono 5 x (h.1 x hx)), fun x hx => leafs (leafN_mono 5 x (h.2 x hx))⟩
      · exact h
    refine .func fn fs cs _ _ (by simpa using l1) (by simpa using l2) ?_ ?_
    · intro i v x hv hx
      rw [List.getElem?_map] at hx
      obtain ⟨y, hy, rfl⟩ := Option.map_eq_some_iff.1 hx
      exact ren1_den hμ (d1 i v y hv hy) (hok.1 y (List.mem_of_getElem? hy))
    · intro i v x hv hx
      rw [List.getElem?_map] at hx
      obtain ⟨y, hy, rfl⟩ := Option.map_eq_some_iff.1 hx
      exact ren1_den hμ (d2 i v y hv hy) (hok.2 y (List.mem_of_getElem? hy))
  | ptr k' g' off => exact ren1_den hμ hd rfl
  | agg cs => exact .pure _ _ (hd.pureB_ (by unfold argOk at h; simpa using h))
  | bad => exact .bad _
  | _ => exact .pure _ _ (hd.pureB_ (by unfold argOk at h; simpa using h))
theorem stepPtr_sound (hP : Fine P) (hcall : CallOK P call) (hI : Inv P n S0 F0 w0 ν F cls s a w) {s' : St} (hin : ∀ k, o.dst = some k → k < n) (h : stepPtr call o s = some s') (hK : ∀ a' w', Rep P n S0 F0 w0 s' a' w' → K a' w') : o.wp P a w K Q := by
  unfold stepPtr at h
  split at h
  · rename_i g args hca
    split at h
    · rename_i k gn hp
      split at h
      · rename_i bx hb
        split at h
        · rename_i hc
          obtain ⟨rfl, hok⟩ := hc
          split at h
          · rename_i d r b' hcal
            injection h with h
            subst h
            obtain ⟨hfn, hcalls⟩ := hcall g _ _ _ _ _ hcal
            obtain ⟨vals, hl, hden, hexec⟩ := callArgs_run hP hI hca hfn
            obtain ⟨hB, hgc, hS⟩ := hI.boxes k bx hb
            have hbr := hI.brooms k bx hb
            rw [List.all_eq_true] at hok
            have hC := hcalls vals w F ⟨fun _ => ν k bx.gen, fun i o => if i = 0 then cls (.bx k) o else none⟩ (by simpa using hl) (fun i v x hv hx => by
                rw [List.getElem?_map] at hx
                obtain ⟨y, hy, rfl⟩ := Option.map_eq_some_iff.1 hx
                exact ren_den rfl (hden i v y hv hy) (hok y (List.mem_of_getElem? hy)))
              (fun i bx' h => by
                cases i with
                | zero => simp at h; subst h; exact ⟨hB, rfl, hbr⟩
                | succ i => simp at h)
              (by
                refine ⟨fun i j hi hj _ => by simp at hi hj; omega, fun i o i' o' g h h' => ?_, fun i o g h => ?_⟩
                · simp only at h h'
                  split at h
                  · split at h'
                    · exact ⟨by omega, (hI.inj _ _ _ _ _ h h').2⟩
                    · cases h'
                  · cases h
                · simp only at h
                  split at h
                  · exact ⟨by simp; omega, (hI.loc _ _ _ h).1, fun j _ => hI.sep _ _ _ _ _ h hb⟩
                  · cases h) hI.lt hI.gok
            unfold Oper.wp
            rw [hexec, Oper.upon_enter]
            refine hC.mono ?_
            rintro e w' ⟨v, F', nc, rfl, hE, hlt, hnew, hval, hn1, hn2, hbx⟩
            obtain ⟨_, hd, hr⟩ := hval.resolve_right (fun h => by simp at h)
            have hCS : ∀ {b}, (Gv.mk [(⟨0, bx.cells, bx.rooms⟩ : Bx)].length ⟨fun _ => ν k bx.gen, fun i o => if i = 0 then cls (.bx k) o else none⟩).C b → ∃ o, cls (.bx k) o = some b := by
              rintro b ⟨i, o, hi, h⟩
              simp only at h
              split at h
              · exact ⟨o, h⟩
              · cases h
            have hBS : ∀ {b}, ¬ (Gv.mk [(⟨0, bx.cells, bx.rooms⟩ : Bx)].length ⟨fun _ => ν k bx.gen, fun i o => if i = 0 then cls (.bx k) o else none⟩).B b → ν k bx.gen ≠ b := fun h e => h ⟨0, by simp, e⟩
            have hE' : Ext (fun b => ν k bx.gen = b ∨ ∃ i, cls (.bx k) i = some b) F w F' w' := hE.weaken fun b _ h => h.imp (fun ⟨i, _, hi⟩ => hi) hCS
            obtain ⟨hB', hBR'⟩ := hbx 0 b' (by simp) rfl
            have old : ∀ {j i g}, j ≠ .bx k → cls j i = some g → ∀ j' i', nc j' i' ≠ some g := by
              intro j i g hj hg j' i' hn
              obtain ⟨_, h2, _⟩ := hn1 _ _ _ hn
              rcases h2 with h2 | h2
              · have := (hI.loc _ _ _ hg).1
                omega
              · obtain ⟨o, ho⟩ := hCS h2
                exact hj (hI.inj _ _ _ _ _ hg ho).1
            have ncOk : ∀ {j i g}, nc j i = some g → g < w'.heap.size ∧ (w0.heap.size ≤ g ∨ S0.C g) ∧ (∀ j i', j ≠ .bx k → cls j i' ≠ some g) ∧ ∀ k' bx', s.box k' = some bx' → ν k' bx'.gen ≠ g := by
              intro j i g hg
              obtain ⟨h1, h2, h3⟩ := hn1 _ _ _ hg
              refine ⟨h1, ?_, fun j' i' hj hc => old hj hc _ _ hg, fun k' bx' hb' he => ?_⟩
              · rcases h2 with h2 | h2
                · exact .inl (Nat.le_trans hI.ext.size h2)
                · obtain ⟨o, ho⟩ := hCS h2
                  exact (hI.loc _ _ _ ho).2
              · rcases h2 with h2 | h2
                · have := box_lt hI hb'
                  omega
                · obtain ⟨o, ho⟩ := hCS h2
                  exact hI.sep _ _ _ _ _ ho hb' he
            have hI' := hI.turn hb (cells := b'.cells) (rooms := b'.rooms) (ncl := nc (.bx 0)) hE' hlt (fun b o h => (hnew b o h).imp id fun h => h.imp id hCS) hB' hBR' (fun i g hg => ncOk hg) (fun i i' g h h' => (hn2 _ _ _ _ _ h h').2)
            obtain ⟨cls', hI''⟩ := hI'.put (T := fun _ => False) hin (Ext.refl _ F' w') hlt (fun b o h => .inl h) (hd _ _) hr (fun b h => h.elim) (fun _ _ _ _ h => h) (fun _ _ _ h => h) (fun i g h => by
              obtain ⟨q1, q2, q3, q4⟩ := ncOk h
              refine ⟨q1, q2, fun j i' hj => ?_, fun k' b2 h' he => ?_⟩
              · split at hj
                · exact absurd (hn2 _ _ _ _ _ h hj).1 (by simp)
                · rename_i hne
                  exact q3 j i' hne hj
              · simp only [St.setBox, upd] at h'
                split at h'
                · injection h' with h'
                  subst h'
                  rename_i hk
                  subst hk
                  exact q4 _ bx hb he
                · exact q4 _ _ h' he) (fun i i' g h h' => (hn2 _ _ _ _ _ h h').2)
            exact hK _ _ ⟨_, _, _, hI''⟩
          · cases h
        · cases h
      · cases h
    · cases h
  · cases h
theorem stepNew_sound (hP : Fine P) (hcall : CallOK P call) (hI : Inv P n S0 F0 w0 ν F cls s a w) {s' : St} (hin : ∀ k, o.dst = some k → k < n) (h : stepNew call o s = some s') (hK : ∀ a' w', Rep P n S0 F0 w0 s' a' w' → K a' w') : o.wp P a w K Q := by
  obtain ⟨dst, op, ty, pos, after, guard⟩ := o
  have G := fun x => get_den hI.gok hI.slots (a := a) x
  cases op with
  | call cc =>
    obtain ⟨callee, args, ats⟩ := cc
    simp only [stepNew] at h
    split at h
    · rename_i f
      split at h
      · rename_i g first captured hf
        split at h
        · rename_i hpure
          unfold newR at h
          split at h
          · rename_i k0 g0 off0 r0 b hcal
            split at h
            · rename_i t hdst
              simp only at hdst
              subst hdst
              split at h
              · rename_i htl
                injection h with h
                subst h
                obtain ⟨m1, m2⟩ := map_den hI args.toList
                have hgf := G f
                rw [hf] at hgf
                obtain ⟨fs, cs, hfv, l1, l2, d1, d2⟩ := hgf.func_
                obtain ⟨hfn, hcalls⟩ := hcall g _ _ _ _ _ hcal
                have hlen : (fs ++ args.toList.map a.eval ++ cs).length = (first ++ args.toList.map (get s.slot) ++ captured).length := by simp [l1, l2]
                have hden : ∀ (i : Nat) (v : Value) (x : D), (fs ++ args.toList.map a.eval ++ cs)[i]? = some v → (first ++ args.toList.map (get s.slot) ++ captured)[i]? = some x → Den s.ctr ν F w v x := by
                  intro i v x hv hx
                  by_cases h1 : i < (fs ++ args.toList.map a.eval).length
                  · rw [List.getElem?_append_left h1] at hv
                    rw [List.getElem?_append_left (by simp at h1 ⊢; omega)] at hx
                    by_cases h2 : i < fs.length
                    · rw [List.getElem?_append_left h2] at hv
                      rw [List.getElem?_append_left (by omega)] at hx
                      exact d1 _ _ _ hv hx
                    · rw [List.getElem?_append_right (by omega)] at hv hx
                      rw [← l1] at hx
                      exact m2 _ _ _ hv hx
                  · have e1 : (first ++ args.toList.map (get s.slot)).length = (fs ++ args.toList.map a.eval).length := by simp [l1]
                    rw [List.getElem?_append_right (by omega)] at hv hx
                    rw [e1] at hx
                    exact d2 _ _ _ hv hx
                have hC := hcalls (fs ++ args.toList.map a.eval ++ cs) w F mu0 hlen (fun i v x hv hx => .pure _ _ ((hden i v x hv hx).pureB_ (by
                  rw [List.all_eq_true] at hpure
                  exact hpure x (List.mem_of_getElem? hx)))) (fun i bx h => by simp at h) (given0 w) hI.lt
                have hexec : (execOp a.eval ⟨some t, .call ⟨.value f, args, ats⟩, ty, pos, after, guard⟩).run P w = .ok (.enter g (fs ++ args.toList.map a.eval ++ cs).toArray) w := by
                  simp only [execOp, resolve, hfv, Deferred.ofValue, Sem.run_bind, Sem.run_pure, Result.andThen_ok]
                  rw [run_invoke_func hP hfn]
                  congr 2
                  apply Array.ext'
                  simp
                unfold Oper.wp
                rw [hexec, Oper.upon_enter]
                refine (hC hI.gok).mono ?_
                rintro e w' ⟨v, F', nc, rfl, hE, hlt, hnew, hval, hn1, hn2, _⟩
                obtain ⟨_, gg, rfl, hg1, hg2, hB, hfar⟩ := hval.resolve_left (fun h => by simp at h)
                have hE' : Ext (fun _ => False) F w F' w' := hE.weaken fun b _ h => absurd h (S_zero _ b)
                have ncNew : ∀ {j i g'}, nc j i = some g' → w.heap.size ≤ g' := fun h => (hn1 _ _ _ h).2.1.resolve_right (C_zero _ _)
                obtain ⟨ν', cls1, hI', hν, _⟩ := hI.adopt htl (rooms := b.rooms) (ncl := nc (.bx 0)) hE' hlt (fun b o h => (hnew b o h).imp id fun h => h.resolve_right (C_zero _ b)) hg1 (hB b (by simp)).1 (hB b (by simp)).2 (fun i g' h => by
                  have h1 := ncNew h
                  refine ⟨(hn1 _ _ _ h).1, .inl (Nat.le_trans hI.ext.size h1), fun j i' _ hc => ?_, fun k' bx hb he => ?_, hfar _ _ _ h⟩
                  · have := (hI.loc _ _ _ hc).1
                    omega
                  · have := box_lt hI hb
                    omega) (fun i i' g' h h' => (hn2 _ _ _ _ _ h h').2)
                obtain ⟨cls', hI''⟩ := hI'.put0 hin (dst := some t) (v := .pointer (some ⟨gg, 0, none⟩)) (d := .ptr t (s.ctr t) 0) (by rw [← hν]; exact .ptr t (s.ctr t) 0 (upd_lt s.ctr t))
                exact hK _ _ ⟨_, _, _, hI''⟩
              · cases h
            · cases h
          · cases h
        · cases h
      · cases h
    · cases h
  | _ => simp [stepNew] at h
/-! ### Rows that are written to -/
theorem rep_at {α : Type} (zs : List α) : ∀ (m j : Nat), j < m * zs.length → ((List.replicate m zs).flatten)[j]? = zs[j % zs.length]?
  | 0, j, h => by simp at h
  | m + 1, j, h => by
    rw [List.replicate_succ, List.flatten_cons]
    have h0 : 0 < zs.length := by
      apply Nat.pos_of_ne_zero
      intro e
      rw [e] at h
      simp at h
    by_cases hj : j < zs.length
    · rw [List.getElem?_append_left hj, Nat.mod_eq_of_lt hj]
    · rw [List.getElem?_append_right (by omega), rep_at zs m (j - zs.length) (by rw [Nat.succ_mul] at h; omega)]
      rw [Nat.mod_eq_sub_mod (Nat.le_of_not_lt hj)]
theorem rep_len {α : Type} (zs : List α) (m : Nat) : ((List.replicate m zs).flatten).length = m * zs.length := by simp
theorem adoptRow (hI : Inv P n S0 F0 w0 ν F cls s a w) {k m sz cap : Nat} {ag : Bool} (hin : k < n) (hk1 : k < 1000000) {cells : List D} {w' : World} (hE : Ext (fun _ => False) F w F w') (hlt : Lt F w') (hB : BoxAt F w' w.heap.size cells) (hm : m ≤ cap) :
    Rep P n S0 F0 w0 (madeRow s k cells m sz ag) (a.put (some k) (.slice (some ⟨w.heap.size, 0, none⟩) m cap)) w' := by
  obtain ⟨ν', cls1, hI', hν, _⟩ := hI.adopt hk1 (rooms := []) (ncl := fun _ => none) hE hlt (fun b o h => .inl h) (Nat.le_refl _) hB BRooms.nil (fun i g h => by cases h) (fun i i' g h => by cases h)
  obtain ⟨cls', hI''⟩ := hI'.put0 (dst := some k) (fun k' e => by injection e with e; rw [← e]; exact hin) (v := .slice (some ⟨w.heap.size, 0, none⟩) m cap) (d := .row k (s.ctr k) m sz ag) (by rw [← hν]; exact .row k (s.ctr k) m cap sz ag (upd_lt s.ctr k) hm)
  exact ⟨_, _, _, hI''⟩
theorem run_append_row {c : Nat → Nat} {t ty e : TypeId} {i : TypeInfo} {fs : List D} {vx vy : Value} (hlt : Lt F w) (hx : ∃ a, vx = .slice a 0 0) (hy : Den c ν F w vy (.list fs)) (he : elemT P t = some e) (hi : P.info? e = some i)
    (hok : infoOk i = true) (hb1 : lenOk fs.length i.bytes = true) (hs : szOk i.size fs = true) (h0 : 0 < fs.length) :
    ∃ m w', (Builtin.append_ #[t, t] ty #[vx, vy]).run P w = .ok (.slice (some ⟨w.heap.size, 0, none⟩) fs.length m) w' ∧ fs.length ≤ m ∧ Ext (fun _ => False) F w F w' ∧ Lt F w' ∧ BoxAt F w' w.heap.size (flat fs) := by
  obtain ⟨hby, hpos, z, hz, hzs⟩ := infoOk_spec hok
  have ht := elem_of he
  obtain ⟨ay, m, cy, news, rfl, hm, hmc, hfs, hnl, hncell, hnd⟩ := hy.list_.list_at hs hpos
  subst hm
  have hnews : news ≠ [] := by
    intro e0
    rw [e0] at hnl
    have := Nat.mul_pos h0 hpos
    simp at hnl
    omega
  obtain ⟨b1, off1, rfl, hn1⟩ := hncell.resolve_left hnews
  have hone := den0_mem hn1
  have hlen := (lenOk_spec hb1 hby).2
  have hb0 := (lenOk_spec hb1 hby).1
  have hrun : ∀ ax, (Builtin.append_ #[t, t] ty #[.slice ax 0 0, .slice (some ⟨b1, off1, none⟩) fs.length cy]).run P w = .ok (.slice (some ⟨w.heap.size, 0, none⟩) fs.length (grownCap w fs.length 0 e)) (w.drew.alloc (.cells (news.toArray ++ Builtin.zeroCells z.cells (grownCap w fs.length 0 e - fs.length)) e)) := by
    intro ax
    cases ax with
    | none => exact run_append_nil (P := P) w t ty e i z ht hi hz ⟨b1, off1, none⟩ fs.length cy news hnl (cells_add hn1) h0 (by omega) (by omega)
    | some s0 =>
      have := run_append_grow (P := P) w t ty e i z ht hi hz s0 0 0 [] (by simp) (fun j v hj => by simp at hj) ⟨b1, off1, none⟩ fs.length cy news hnl (cells_add hn1) (by omega) (by omega) (growslice_fits (by omega) (by simpa using hlen))
      simpa using this
  obtain ⟨ax, rfl⟩ := hx
  have hE : Ext (fun _ => False) F w F (w.drew.alloc (.cells (news.toArray ++ Builtin.zeroCells z.cells (grownCap w fs.length 0 e - fs.length)) e)) := drew_ext (ext_alloc0 (F := F) (w := w.drew) hlt _)
  refine ⟨_, _, hrun ax, grownCap_ge w fs.length 0 e, hE, lt_alloc0 (w := w.drew) hlt _, news, e, (Builtin.zeroCells z.cells (grownCap w fs.length 0 e - fs.length)).toList, (0, 0), ⟨?_, .inl rfl⟩, ?_, hone, fun j v x hv hx => (hnd j v x hv hx).ext hE, fun o hF => Nat.lt_irrefl _ (hlt _ _ hF)⟩
  · have e1 : (news ++ (Builtin.zeroCells z.cells (grownCap w fs.length 0 e - fs.length)).toList).toArray = news.toArray ++ Builtin.zeroCells z.cells (grownCap w fs.length 0 e - fs.length) := by
      apply Array.ext'
      simp
    rw [e1]
    exact heap_alloc_new w.drew _
  · rw [flat_len hfs, hnl]
theorem rowApp_inv {ts : List TypeId} {x y : D} {r : List Room} {fs : List D} {sz : Nat} {ag : Bool} (h : rowApp P ts x r y = some (fs, sz, ag)) :
    ∃ t e i, ts = [t, t] ∧ x = .list [] ∧ y = .list fs ∧ r = [.full] ∧ 0 < fs.length ∧ elemT P t = some e ∧ P.info? e = some i ∧ infoOk i = true ∧ lenOk fs.length i.bytes = true ∧ szOk i.size fs = true := by
  unfold rowApp at h
  split at h
  · rename_i t u fs'
    split at h
    · rename_i hc
      obtain ⟨rfl, rfl, h0⟩ := hc
      split at h
      · rename_i e he
        split at h
        · rename_i i ag' hi hag
          split at h
          · rename_i hc2
            simp only [Option.some.injEq, Prod.mk.injEq] at h
            obtain ⟨rfl, rfl, rfl⟩ := h
            exact ⟨t, e, i, rfl, rfl, rfl, rfl, h0, he, hi, hc2.2.1, hc2.1, hc2.2.2⟩
          · cases h
        · cases h
      · cases h
    · cases h
  · cases h
theorem stepRow_sound (hR : Rep P n S0 F0 w0 s a w) {ops : Array Oper} {s' : St} (h : stepRow P n o s = some s') (hK : ∀ a' w', Rep P n S0 F0 w0 s' a' w' → K a' w') :
    if Region.wanted o (yielded ops a.tmps) then o.wp P a w K Q else K (a.put o.dst undef) w := by
  obtain ⟨ν, F, cls, hI⟩ := hR
  obtain ⟨dst, op, ty, pos, after, guard⟩ := o
  have G := fun x => get_den hI.gok hI.slots (a := a) x
  simp only [stepRow] at h
  split at h
  · rename_i k
    rw [if_pos (show Region.wanted ⟨some k, op, ty, pos, after, none⟩ (yielded ops a.tmps) = true from rfl)]
    split at h
    · rename_i hk
      obtain ⟨hin, hk1⟩ := hk
      cases op with
      | convert src dt x =>
        simp only at h
        split at h
        · rename_i e es hd hc
          injection h with h
          subst h
          unfold dconv at hc
          split at hc
          · cases hc
          · cases hc
          · split at hc
            · obtain ⟨l, _, h3⟩ := Option.map_eq_some_iff.1 hc
              cases h3
            · cases hc
          · rename_i u e' l hs hd' hx
            split at hc
            · rename_i he
              injection hc with hc
              injection hc with hc
              subst hc
              have hgx := G x
              rw [hx] at hgx
              have hv := hgx.str_
              have hsize : (⟨l.toArray⟩ : ByteArray).size = l.length := by simp [ByteArray.size]
              have hrun : (execOp a.eval ⟨some k, .convert src dt x, ty, pos, after, none⟩).run P w = .ok (.value (.slice (some ⟨w.heap.size, 0, none⟩) l.length (grownCap w l.length 0 e'))) (Lib.bytesWorld w e' ⟨l.toArray⟩) := by
                refine exec_v ?_
                rw [hv, Lib.run_convert_string_bytes w src dt e' ⟨l.toArray⟩ hs hd' he, hsize]
              have hE : Ext (fun _ => False) F w F (Lib.bytesWorld w e' ⟨l.toArray⟩) := ⟨rfl, rfl, rfl, by rw [Lib.bytesWorld_size]; omega, fun b hb _ => Lib.bytesWorld_at_old w e' _ b hb, fun b o h => h, fun b o h => Lib.bytesWorld_old w e' _ ⟨b, o, none⟩ (hI.lt b o h), fun b es ck h hm => (Lib.bytesWorld_at_old w e' _ b (hI.lt b 0 h)).trans hm⟩
              have hlt' : Lt F (Lib.bytesWorld w e' ⟨l.toArray⟩) := fun b o h => by
                have := hI.lt b o h
                rw [Lib.bytesWorld_size]
                omega
              unfold Oper.wp
              rw [hrun, Oper.upon_value]
              refine hK _ _ ?_
              rw [show (l.map fun b => D.int .u8 b.toNat).length = l.length from by simp]
              refine adoptRow hI hin hk1 hE hlt' ?_ (grownCap_ge w l.length 0 e')
              have hnew := Lib.bytesWorld_at_new w e' ⟨l.toArray⟩
              have hcells : ∀ j, j < l.length → (Lib.bytesCells w e' ⟨l.toArray⟩)[j]? = some (.int .u8 (l.getD j 0).toNat) := fun j hj => by
                have h1 := Lib.bytesWorld_cell w e' ⟨l.toArray⟩ j (by rw [hsize]; exact hj)
                rw [cell_of_row _ _ _ _ _ _ hnew] at h1
                simpa using h1
              have htake : (Lib.bytesCells w e' ⟨l.toArray⟩).toList.take l.length = l.map fun b => Value.int .u8 b.toNat := by
                apply List.ext_getElem?
                intro j
                by_cases hj : j < l.length
                · rw [List.getElem?_take, if_pos hj, Array.getElem?_toList, hcells j hj, List.getElem?_map, List.getElem?_eq_getElem hj]
                  simp [List.getD, hj]
                · rw [List.getElem?_take, if_neg hj, List.getElem?_eq_none (by simp; omega)]
              refine ⟨l.map fun b => Value.int .u8 b.toNat, e', (Lib.bytesCells w e' ⟨l.toArray⟩).toList.drop l.length, ((Lib.bytesCells w e' ⟨l.toArray⟩).size, (Lib.bytesCells w e' ⟨l.toArray⟩).size + 1), ⟨?_, .inr ?_⟩, by simp, ?_, ?_, ?_⟩
              · rw [← htake, List.take_append_drop, Array.toArray_toList]
                exact hnew
              · rw [← htake, List.take_append_drop]
                simp
              · intro v hv
                obtain ⟨b, _, rfl⟩ := List.mem_map.1 hv
                rfl
              · intro i v x hv hx
                rw [List.getElem?_map] at hv hx
                cases hl : l[i]? with
                | none => rw [hl] at hv; cases hv
                | some b =>
                  rw [hl] at hv hx
                  simp at hv hx
                  subst hv hx
                  exact .int _ _
              · intro o hF
                exact Nat.lt_irrefl _ (hI.lt _ _ hF)
            · cases hc
          · cases hc
        · cases h
      | makeSlice t l c =>
        simp only at h
        split at h
        · rename_i e kl m kc m' he hl hc
          have ht := elem_of he
          split at h
          · rename_i i z ag hi hz hag
            split at h
            · rename_i hb
              obtain ⟨rfl, rfl, hb1, hb2, hb3, hb4, hb5, hb6⟩ := hb
              obtain ⟨hb7, hb8, zv, hz0, hzs⟩ := infoOk_spec hb4
              injection h with h
              subst h
              have hgl := G l
              rw [hl] at hgl
              have hgc := G c
              rw [hc] at hgc
              have hby : (i.bytes : Int) * m' ≤ 281474976710656 := by
                have h1 : (i.bytes : Int) * m' ≤ 4096 * m' := Int.mul_le_mul_of_nonneg_right (by omega) (by omega)
                have h2 : (4096 : Int) * m' ≤ 4096 * 1073741824 := Int.mul_le_mul_of_nonneg_left hb3 (by decide)
                omega
              have hrun0 := run_make (P := P) w t e i zv ht hi hz0 .i64 .i64 m m' hb1 hb2 hby (by omega)
              have hrun : (execOp a.eval ⟨some k, .makeSlice t l c, ty, pos, after, none⟩).run P w = .ok (.value (.slice (some ⟨w.heap.size, 0, none⟩) m.toNat m'.toNat)) (w.alloc (.cells (madeCells zv.cells (m'.toNat * i.size)) e)) := by
                refine exec_v ?_
                rw [hgl.int_, hgc.int_]
                exact hrun0
              unfold Oper.wp
              rw [hrun, Oper.upon_value]
              refine hK _ _ ?_
              refine adoptRow hI hin hk1 (ext_alloc0 hI.lt _) (lt_alloc0 hI.lt _) ?_ (by omega)
              unfold zeroOf at hz
              obtain ⟨it, hit, hz⟩ := Option.bind_eq_some_iff.1 hz
              obtain ⟨zv', hz0', hz⟩ := Option.bind_eq_some_iff.1 hz
              rw [hi] at hit
              injection hit with hit
              subst hit
              rw [hz0] at hz0'
              injection hz0' with hz0'
              subst hz0'
              obtain ⟨z1, z2, z3⟩ := zero_den (c := s.ctr) (ν := ν) (F := F) (w := w) hz
              rw [List.all_eq_true] at hb6
              have hzl : zv.cells.size = i.size := by rw [← hb5, ← z1]; simp
              have hle : m.toNat * i.size ≤ m'.toNat * i.size := Nat.mul_le_mul_right _ (by omega)
              have hat : ∀ j, j < m.toNat * i.size → (madeCells zv.cells (m'.toNat * i.size))[j]? = zv.cells.toList[j % i.size]? := fun j hj => by
                have hj' : j < m'.toNat * i.size := by omega
                have hmod : j % zv.cells.size < zv.cells.size := Nat.mod_lt _ (by
                  rw [hzl]
                  exact hb8)
                simp [madeCells, hj', hmod, hzl] at hmod ⊢
                simp [hmod, hzl]
              have hlen : ((madeCells zv.cells (m'.toNat * i.size)).toList.take (m.toNat * i.size)).length = m.toNat * i.size := by
                rw [List.length_take, Array.length_toList, size_madeCells]
                omega
              refine ⟨(madeCells zv.cells (m'.toNat * i.size)).toList.take (m.toNat * i.size), e, (madeCells zv.cells (m'.toNat * i.size)).toList.drop (m.toNat * i.size), (0, 0), ⟨?_, .inl rfl⟩, ?_, ?_, ?_, ?_⟩
              · rw [List.take_append_drop, Array.toArray_toList]
                exact heap_alloc_new w _
              · rw [hlen, rep_len, hb5]
              · intro v hv
                obtain ⟨j, hv⟩ := List.mem_iff_getElem?.1 hv
                have hj : j < m.toNat * i.size := by
                  have := (List.getElem?_eq_some_iff.1 hv).1
                  rwa [hlen] at this
                rw [List.getElem?_take, if_pos hj, Array.getElem?_toList, hat j hj] at hv
                exact z2 v (List.mem_of_getElem? hv)
              · intro j v x hv hx
                have hj : j < m.toNat * i.size := by
                  have := (List.getElem?_eq_some_iff.1 hv).1
                  rwa [hlen] at this
                rw [List.getElem?_take, if_pos hj, Array.getElem?_toList, hat j hj] at hv
                rw [rep_at z m.toNat j (by rw [hb5]; exact hj), hb5] at hx
                exact ((z3 _ _ _ hv hx).leaf_ (hb6 x (List.mem_of_getElem? hx))).ext (ext_alloc0 hI.lt _)
              · intro o hF
                exact Nat.lt_irrefl _ (hI.lt _ _ hF)
            · cases h
          · cases h
        · cases h
      | call cc =>
        obtain ⟨callee, args, ats⟩ := cc
        simp only at h
        split at h
        · rename_i x y hargs
          split at h
          · rename_i fs sz ag hra
            injection h with h
            subst h
            obtain ⟨t, e, i, hts, hx, hy, hr, h0, he, hi, hok, hb1, hs⟩ := rowApp_inv hra
            have hargs' : args = #[x, y] := by apply Array.ext'; exact hargs
            subst hargs'
            have hts' : ats = #[t, t] := by apply Array.ext'; exact hts
            subst hts'
            have hgx := G x
            rw [hx] at hgx
            have hgy := G y
            rw [hy] at hgy
            have hvx : ∃ ad, a.eval x = .slice ad 0 0 := by
              have hro : RoomsOK P F w (a.eval x) (get s.slot x) (oroom s.room x) (match x with | .tmp t => cls (.sl t) | _ => fun _ => none) := by
                cases x with
                | tmp t => exact hI.rooms t
                | _ => exact croom_ok (P := P) (F := F) (w := w) (s := s) (a := a) _
              rw [hx, hr] at hro
              have h1 := hro 0
              obtain ⟨_, es, ad, h2, h3⟩ := h1
              injection h3 with h3
              injection h3 with h3
              subst h3
              obtain ⟨ad', n', c', hsl⟩ := hgx.list_.slice_
              rw [hsl] at h2 ⊢
              simp only [comp, Option.some.injEq, Value.slice.injEq, List.length_nil] at h2
              exact ⟨ad', by rw [h2.2.1, h2.2.2]⟩
            obtain ⟨m, w', hrun0, hm, hE, hlt', hB⟩ := run_append_row (P := P) (ty := ty) hI.lt hvx hgy he hi hok hb1 hs h0
            have hrun : (execOp a.eval ⟨some k, .call { callee := .builtin .append, args := #[x, y], argTypes := #[t, t] }, ty, pos, after, none⟩).run P w = .ok (.value (.slice (some ⟨w.heap.size, 0, none⟩) fs.length m)) w' := by
              simp only [execOp, resolve, Sem.run_bind, Sem.run_pure, Result.andThen_ok, invoke, builtin]
              have : (#[x, y] : Array Operand).map a.eval = #[a.eval x, a.eval y] := by simp
              rw [this, hrun0, Result.andThen_ok]
            unfold Oper.wp
            rw [hrun, Oper.upon_value]
            exact hK _ _ (adoptRow hI hin hk1 hE hlt' hB hm)
          · cases h
        · cases h
      | _ => simp at h
    · cases h
  · cases h
theorem cell_not_agg {F : Nat → Nat → Prop} {w : World} {v : Value} {x : D} (h : Den0 F w v x) (h1 : v.oneCell' = true) : dcells x = [x] := by
  cases h with
  | agg vs cs => simp [Value.oneCell'] at h1
  | _ => rfl
theorem rowList_len (sz : Nat) (ag : Bool) : ∀ (m : Nat) (cs : List D), (rowList sz ag m cs).length = m
  | 0, _ => rfl
  | m + 1, cs => by simp [rowList, rowList_len sz ag m]
theorem rowElem_cells {sz : Nat} {ag : Bool} {cs : List D} (hl : cs.length = sz) (hs : ag = true ∨ sz = 1) (hc : ∀ x ∈ cs, dcells x = [x]) : dcells (rowElem ag cs) = cs := by
  unfold rowElem
  cases ag with
  | true => rfl
  | false =>
    have h1 : sz = 1 := hs.resolve_left (by simp)
    match cs, hl with
    | [x], _ => exact hc x (by simp)
    | [], hl => simp at hl; omega
    | x :: y :: r, hl => simp at hl; omega
theorem rowList_flat {sz : Nat} {ag : Bool} (hs : ag = true ∨ sz = 1) : ∀ (m : Nat) (cs : List D), m * sz ≤ cs.length → (∀ x ∈ cs, dcells x = [x]) → (∀ e ∈ rowList sz ag m cs, (dcells e).length = sz) ∧ flat (rowList sz ag m cs) = cs.take (m * sz)
  | 0, cs, _, _ => by simp [rowList, flat]
  | m + 1, cs, hl, hc => by
    rw [Nat.succ_mul] at hl
    have e1 := rowElem_cells (ag := ag) (cs := cs.take sz) (sz := sz) (by simp; omega) hs (fun x hx => hc x (List.mem_of_mem_take hx))
    obtain ⟨h1, h2⟩ := rowList_flat hs m (cs.drop sz) (by simp; omega) (fun x hx => hc x (List.mem_of_mem_drop hx))
    refine ⟨fun e he => ?_, ?_⟩
    · simp only [rowList, List.mem_cons] at he
      rcases he with rfl | he
      · rw [e1]; simp; omega
      · exact h1 e he
    · have : flat (rowElem ag (cs.take sz) :: rowList sz ag m (cs.drop sz)) = dcells (rowElem ag (cs.take sz)) ++ flat (rowList sz ag m (cs.drop sz)) := by simp [flat]
      simp only [rowList]
      rw [this, e1, h2, Nat.succ_mul, Nat.add_comm, List.take_add]
theorem Inv.freeze (hI : Inv P n S0 F0 w0 ν F cls s a w) {k g : Nat} {bx : Bx} (hb : s.box k = some bx) (hg : bx.gen = g) (hk1 : k < 1000000) :
    ∃ F', Inv P n S0 F0 w0 ν F' cls { s with box := upd s.box k none, slot := fun j => frzD k g bx.cells (s.slot j) } a w := by
  subst hg
  obtain ⟨⟨vs, te, rest, fr, ⟨h1, h0⟩, h2, h3, h4, h5⟩, hgc, hpl⟩ := hI.boxes k bx hb
  have hlate : w0.heap.size ≤ ν k bx.gen := by
    rcases hpl with ⟨i, hi, he⟩ | h
    · obtain ⟨b', e1, e2, e3⟩ := hI.given i hi
      have := hI.binj (pid i) b' k bx e1 hb (by rw [e2, e3, he])
      unfold pid at this
      omega
    · exact h
  have hbl := lt_of_heap h1
  refine ⟨fun b o => F b o ∨ (b = ν k bx.gen ∧ o < bx.cells.length), ?_⟩
  have hE : Ext (fun b => b = ν k bx.gen) F w (fun b o => F b o ∨ (b = ν k bx.gen ∧ o < bx.cells.length)) w := ⟨rfl, rfl, rfl, Nat.le_refl _, fun _ _ _ => rfl, fun _ _ h => .inl h, fun _ _ _ => rfl, fun _ _ _ _ h => h⟩
  have hnew : ∀ b o, (F b o ∨ (b = ν k bx.gen ∧ o < bx.cells.length)) → F b o ∨ w.heap.size ≤ b ∨ (fun b => b = ν k bx.gen) b := fun b o h => h.imp id fun h => .inr h.1
  have hbox : ∀ k' b', upd s.box k none k' = some b' → k' ≠ k ∧ s.box k' = some b' := by
    intro k' b' h
    simp only [upd] at h
    by_cases hk : k' = k
    · rw [if_pos hk] at h; cases h
    · rw [if_neg hk] at h; exact ⟨hk, h⟩
  have hfrz : ∀ {v : Value} {d : D}, Den s.ctr ν F w v d → Den s.ctr ν (fun b o => F b o ∨ (b = ν k bx.gen ∧ o < bx.cells.length)) w v (frzD k bx.gen bx.cells d) := by
    intro v d hd
    cases d with
    | row k' g' m sz ag =>
      simp only [frzD]
      split
      · rename_i he
        obtain ⟨rfl, rfl⟩ := he
        split
        · rename_i hc
          obtain ⟨hc1, hc2, hc3⟩ := hc
          obtain ⟨cap, rfl, _, hm⟩ := hd.row_
          have hone : ∀ x ∈ bx.cells, dcells x = [x] := by
            intro x hx
            obtain ⟨j, hj⟩ := List.mem_iff_getElem?.1 hx
            have hjl : j < vs.length := by rw [h2]; exact (List.getElem?_eq_some_iff.1 hj).1
            exact cell_not_agg (h4 j _ x (List.getElem?_eq_getElem hjl) hj) (h3 _ (List.getElem_mem hjl))
          obtain ⟨f1, f2⟩ := rowList_flat (ag := ag) hc3 m bx.cells hc1 hone
          refine .pure _ _ (.list _ m cap sz _ (vs.take (m * sz)) (rowList_len sz ag m _) hm hc2 f1 (by simp; omega) (.inr ⟨ν k' bx.gen, 0, rfl, ?_⟩) ?_)
          · intro i v hv
            have hi : i < m * sz := by
              have := (List.getElem?_eq_some_iff.1 hv).1
              simp at this
              omega
            rw [List.getElem?_take, if_pos hi] at hv
            have hil := (List.getElem?_eq_some_iff.1 hv).1
            refine ⟨.inr ⟨rfl, by omega⟩, ?_, h3 v (List.mem_of_getElem? hv)⟩
            rw [Nat.zero_add, cell_of_row w _ _ _ _ _ h1]
            simpa [List.getElem?_append_left hil] using hv
          · intro i v x hv hx
            rw [f2] at hx
            have hi : i < m * sz := by
              have := (List.getElem?_eq_some_iff.1 hv).1
              simp at this
              omega
            rw [List.getElem?_take, if_pos hi] at hv hx
            exact (h4 i v x hv hx).ext hE
        · exact .bad _
      · exact hd.ext hE
    | ptr k' g' off =>
      simp only [frzD]
      split
      · rename_i he
        obtain ⟨rfl, rfl⟩ := he
        obtain ⟨rfl, _⟩ := hd.ptr_
        refine .pure _ _ ?_
        refine Eq.mp (congrArg (fun z => Den0 _ _ (.pointer (some ⟨ν k' bx.gen, z, none⟩)) (.fix (.agg bx.cells) off)) (Nat.zero_add off)) ?_
        refine Den0.fix (.agg bx.cells) (ν k' bx.gen) 0 off vs h2 ?_ ?_
        · intro i v hv
          have hil := (List.getElem?_eq_some_iff.1 hv).1
          refine ⟨.inr ⟨rfl, by omega⟩, ?_, h3 v (List.mem_of_getElem? hv)⟩
          rw [Nat.zero_add, cell_of_row w _ _ _ _ _ h1]
          simpa [List.getElem?_append_left hil] using hv
        · intro i v x hv hx
          exact (h4 i v x hv hx).ext hE
      · exact hd.ext hE
    | _ => exact hd.ext hE
  refine ⟨hI.ext.late hE (fun b hb => .inr (by rw [hb]; exact hlate)), ?_, ?_, hI.size, hI.defers, fun j => hfrz (hI.slots j), fun j i => ?_, hI.inj, fun j i g k' b' h1 h2 => hI.sep j i g k' b' h1 (hbox k' b' h2).2, hI.loc, ?_, fun k' b' h => ?_, ?_, ?_, hI.gok.ext hE⟩
  · intro b o h
    rcases h with h | ⟨rfl, _⟩
    · exact hI.lt b o h
    · exact hbl
  · intro b o h
    rcases h with h | ⟨rfl, _⟩
    · exact hI.news b o h
    · exact .inr (.inl hlate)
  · have hr := (hI.rooms j i).ext hE hnew (fun g hg h => hI.sep _ i g k bx hg hb h.symm)
    show RoomAt P _ w _ (dcomp (frzD k bx.gen bx.cells (s.slot j)) i) _ _
    cases hd : s.slot j with
    | row k' g' m sz ag =>
      rw [hd] at hr
      match hrm : (s.room j)[i]?, hr with
      | none, hr => exact hr
      | some .no, hr => exact hr
      | some .full, hr =>
        obtain ⟨_, es, a', _, h⟩ := hr
        cases i <;> simp [dcomp] at h
      | some .fresh, hr =>
        obtain ⟨_, es, _, _, _, _, h, _⟩ := hr
        cases i <;> simp [dcomp] at h
      | some (.own e), hr =>
        obtain ⟨u, es, _, h, _⟩ := hr
        cases i <;> simp [dcomp] at h
    | ptr k' g' off =>
      rw [hd] at hr
      match hrm : (s.room j)[i]?, hr with
      | none, hr => exact hr
      | some .no, hr => exact hr
      | some .full, hr =>
        obtain ⟨_, es, a', _, h⟩ := hr
        cases i <;> simp [dcomp] at h
      | some .fresh, hr =>
        obtain ⟨_, es, _, _, _, _, h, _⟩ := hr
        cases i <;> simp [dcomp] at h
      | some (.own e), hr =>
        obtain ⟨u, es, _, h, _⟩ := hr
        cases i <;> simp [dcomp] at h
    | _ => rw [hd] at hr; exact hr
  · intro k' b' h
    obtain ⟨hne, h⟩ := hbox k' b' h
    obtain ⟨h6, h7, h8⟩ := hI.boxes k' b' h
    exact ⟨h6.ext hE hnew (fun he => hne (hI.binj k' b' k bx h hb he)), h7, h8⟩
  · obtain ⟨hne, h⟩ := hbox k' b' h
    exact (hI.brooms k' b' h).ext hE (box_lt hI h) hnew (fun i g hg he => hI.sep _ _ _ _ _ hg hb he.symm) (fun he => hne (hI.binj k' b' k bx h hb he))
  · intro k1 b1 k2 b2 h1 h2 he
    exact hI.binj k1 b1 k2 b2 (hbox k1 b1 h1).2 (hbox k2 b2 h2).2 he
  · intro i hi
    obtain ⟨b', e1, e2, e3⟩ := hI.given i hi
    refine ⟨b', ?_, e2, e3⟩
    have hne : pid i ≠ k := by unfold pid; omega
    simp only [upd, if_neg hne]
    exact e1
theorem Rep.freeze (hR : Rep P n S0 F0 w0 s a w) (t : Tmp) : Rep P n S0 F0 w0 (s.freeze t) a w := by
  unfold St.freeze
  split
  · split
    · split
      · rename_i hc
        obtain ⟨ν, F, cls, hI⟩ := hR
        obtain ⟨F', h⟩ := hI.freeze ‹_› hc.1 hc.2
        exact ⟨_, _, _, h⟩
      · exact hR
    · exact hR
  · split
    · split
      · rename_i hc
        obtain ⟨ν, F, cls, hI⟩ := hR
        obtain ⟨F', h⟩ := hI.freeze ‹_› hc.1 hc.2
        exact ⟨_, _, _, h⟩
      · exact hR
    · exact hR
  · exact hR
theorem Rep.frz : ∀ (l : List Tmp) {s : St}, Rep P n S0 F0 w0 s a w → Rep P n S0 F0 w0 (s.frz l) a w
  | [], _, hR => hR
  | t :: l, _, hR => Rep.frz l (hR.freeze t)
end
end Go.Av
namespace Go.Av
open Go.RowKit
variable [Gs]

section
variable {P : Program} {n : Nat} {S0 : Gv} {F0 : Nat → Nat → Prop} {w0 : World} {s : St} {a : Act} {w : World}
variable {K : Act → World → Prop} {Q : Exit → Act → World → Prop} {o : Oper} {call : Call} {E : List Tmp}

theorem inB_spec (h : inB n o = true) : ∀ k, o.dst = some k → k < n := fun k hk => by
  unfold inB at h
  rw [hk] at h
  simpa using h
theorem Rep.put0 (hR : Rep P n S0 F0 w0 s a w) (hin : ∀ k, o.dst = some k → k < n) : Rep P n S0 F0 w0 (s.put o.dst (.tuple []) []) (a.put o.dst undef) w := by
  obtain ⟨ν, F, cls, hI⟩ := hR
  obtain ⟨cls', h⟩ := hI.put0 hin (dst := o.dst) (v := undef) (d := .tuple []) (.tuple [] [] rfl (fun i v x hv => by simp at hv))
  exact ⟨ν, F, cls', h⟩
theorem Rep.drew (hR : Rep P n S0 F0 w0 s a w) : Rep P n S0 F0 w0 s a w.drew := by
  obtain ⟨ν, F, cls, hI⟩ := hR
  obtain ⟨cls', h⟩ := hI.put (T := fun _ => False) (dst := none) (v := undef) (d := .bad) (r := []) (ncl := fun _ => none) (F' := F) (w' := w.drew) (fun k h => by cases h) (Ext.refl _ F w).drew hI.lt (fun b o h => .inl h) (.bad _) rooms_nil (fun b h => h.elim) (fun _ _ _ _ h => h) (fun _ _ _ h => h) (fun i g h => by cases h) (fun i i' g h => by cases h)
  exact ⟨ν, F, cls', h⟩
theorem wanted_sound (hR : Rep P n S0 F0 w0 s a w) {ops : Array Oper} {b : Bool} (h : dwanted ops.toList s o = some b) : Region.wanted o (yielded ops a.tmps) = b := by
  obtain ⟨ν, F, cls, hI⟩ := hR
  unfold dwanted at h
  unfold Region.wanted
  split at h
  · rename_i hg
    injection h with h
    rw [hg, h]
  · rename_i j want hg
    rw [hg]
    simp only [Array.getElem?_toList] at h
    split at h
    · cases h
    · rename_i t ht
      have hslot := hI.slots t
      simp only [yielded, ht, Option.bind_some]
      split at h
      · rename_i b' hb
        injection h with h
        subst h
        rw [hb] at hslot
        have hv := hslot.bool_
        have hlt : a.tmps[t]? = some (.bool b') := by
          cases ht' : a.tmps[t]? with
          | none => simp [Array.getD_eq_getD_getElem?, ht', undef] at hv
          | some x => simp [Array.getD_eq_getD_getElem?, ht'] at hv; rw [hv]
        simp [hlt]
      · rename_i hb
        injection h with h
        subst h
        rw [hb] at hslot
        obtain ⟨vs, hv, hl, _⟩ := hslot.tuple_
        have hvs : vs = [] := List.length_eq_zero_iff.1 hl
        subst hvs
        cases ht' : a.tmps[t]? with
        | none => simp
        | some x =>
          simp [Array.getD_eq_getD_getElem?, ht'] at hv
          simp [hv]
      · cases h
theorem step_sound (hP : Fine P) (hcall : CallOK P call) (hR : Rep P n S0 F0 w0 s a w) {ops : Array Oper} {s' : St} (h : step P call n E ops.toList o s = some s') (hK : ∀ a' w', Rep P n S0 F0 w0 s' a' w' → K a' w') :
    if Region.wanted o (yielded ops a.tmps) then o.wp P a w K Q else K (a.put o.dst undef) w := by
  unfold step at h
  split at h
  · rename_i hin
    have hin' := inB_spec hin
    split at h
    · cases h
    · rename_i hw
      rw [wanted_sound hR hw]
      injection h with h
      subst h
      simp only [Bool.false_eq_true, if_false]
      exact hK _ _ (hR.put0 hin')
    · rename_i hw
      rw [wanted_sound hR hw]
      simp only [if_true]
      obtain ⟨ν, F, cls, hI⟩ := hR
      have hS : stepS P call E o s = some s' → o.wp P a w K Q := fun h => stepS_sound hP hcall hI hin' h fun a' w' ⟨F', cls', h⟩ => hK a' w' ⟨ν, F', cls', h⟩
      split at h
      · exact stepBox_sound hI hin' h hK
      · exact stepBox_sound hI hin' h hK
      · exact stepBox_sound hI hin' h hK
      · split at h
        · exact stepPtr_sound hP hcall hI hin' h hK
        · cases hst : stepS P call E o s with
          | some s1 => rw [hst] at h; exact hS (by rw [hst]; exact h)
          | none => rw [hst] at h; exact stepNew_sound hP hcall hI hin' h hK
      · split at h
        · exact take_sound hI hin' h hK
        · exact hS h
  · cases h
theorem runOps_sound (hP : Fine P) (hcall : CallOK P call) {ops : Array Oper} {s' : St} (hQ : ∀ a' w', Rep P n S0 F0 w0 s' a' w' → Q .normal a' w') :
    ∀ (l : List Oper) (s : St) (a : Act) (w : World), Rep P n S0 F0 w0 s a w → runOps P call n E ops.toList l s = some s' → wpList P ops Q l a w
  | [], s, a, w, hR, h => by
    simp only [runOps] at h
    injection h with h
    subst h
    exact wpList_nil (hQ _ _ hR)
  | o :: l, s, a, w, hR, h => by
    simp only [runOps] at h
    obtain ⟨s1, h1, h2⟩ := Option.bind_eq_some_iff.1 h
    refine wpList_step fun K hK => ?_
    split at h1
    · exact stepRow_sound hR h1 fun a' w' hR' => hK _ _ (runOps_sound hP hcall hQ l s1 a' w' hR' h2)
    · exact step_sound hP hcall hR h1 fun a' w' hR' => hK _ _ (runOps_sound hP hcall hQ l s1 a' w' hR' h2)
end

def X.toExit : X → Exit
  | .normal => .normal
  | .exit id => .exit id
  | .ret => .ret
def DrawOK (P : Program) (call : Call) : Prop :=
  ∀ (n : Nat) (S0 : Gv) (F0 : Nat → Nat → Prop) (w0 : World) (E : List Tmp) (id : Nat) (ops : Array Oper) (s s' : St) (a : Act) (w : World) (Q : Exit → Act → World → Prop),
    Rep P n S0 F0 w0 s a w → runDraw P call n E ops.toList s = some s' → (∀ a' w', Rep P n S0 F0 w0 s' a' w' → Q .normal a' w') → (Code.region id ops true).wp P Q a w

section
variable {P : Program} {n : Nat} {S0 : Gv} {F0 : Nat → Nat → Prop} {w0 : World} {call : Call} {N : Nat} {res : List Tmp}

theorem loop_sound {c : Code} {f : St → Option (X × St)} (hc : ∀ (s : St) (x : X) (s' : St) (a : Act) (w : World) (Q : Exit → Act → World → Prop), Rep P n S0 F0 w0 s a w → f s = some (x, s') → (∀ a' w', Rep P n S0 F0 w0 s' a' w' → Q x.toExit a' w') → c.wp P Q a w)
    {Q : Exit → Act → World → Prop} {x : X} {s' : St} (hx : x ≠ .normal) (hQ : ∀ a' w', Rep P n S0 F0 w0 s' a' w' → Q x.toExit a' w') :
    ∀ (m : Nat) (s : St) (a : Act) (w : World), Rep P n S0 F0 w0 s a w → aloop f m s = some (x, s') → Code.rounds P c Q m a w
  | 0, s, a, w, _, h => by simp [aloop] at h
  | m + 1, s, a, w, hR, h => by
    rw [rounds_succ]
    simp only [aloop] at h
    split at h
    · rename_i s1 h1
      exact hc s .normal s1 a w _ hR h1 fun a' w' hR' => loop_sound hc hx hQ m s1 a' w' hR' h
    · refine hc s x s' a w _ hR h fun a' w' hR' => ?_
      cases x with
      | normal => exact absurd rfl hx
      | exit id => exact hQ a' w' hR'
      | ret => exact hQ a' w' hR'
theorem aloop_ne {f : St → Option (X × St)} {x : X} {s' : St} : ∀ (m : Nat) (s : St), aloop f m s = some (x, s') → x ≠ .normal
  | 0, s, h => by simp [aloop] at h
  | m + 1, s, h => by
    simp only [aloop] at h
    split at h
    · exact aloop_ne m _ h
    · rename_i hn
      rintro rfl
      exact hn s' h
theorem code_sound (hP : Fine P) (hcall : CallOK P call) (hdraw : DrawOK P call) : ∀ (c : Code) (s : St) (x : X) (s' : St) (a : Act) (w : World) (Q : Exit → Act → World → Prop), Rep P n S0 F0 w0 s a w →
    acode P call N n res c s = some (x, s') → (∀ a' w', Rep P n S0 F0 w0 s' a' w' → Q x.toExit a' w') → c.wp P Q a w := by
  intro c
  induction c with
  | skip =>
    intro s x s' a w Q hR h hQ
    simp only [acode] at h
    injection h with h
    injection h with h1 h2
    subst h1 h2
    exact wp_skip (hQ _ _ hR)
  | region id ops draw =>
    intro s x s' a w Q hR h hQ
    simp only [acode] at h
    obtain ⟨s1, h1, h2⟩ := Option.map_eq_some_iff.1 h
    injection h2 with h2 h3
    subst h2 h3
    cases draw with
    | true => exact hdraw n S0 F0 w0 _ id ops _ s1 a w Q (Rep.frz _ hR) h1 hQ
    | false => exact wp_region_list (runOps_sound hP hcall hQ ops.toList _ a w (Rep.frz _ hR) h1)
  | seq c1 c2 ih1 ih2 =>
    intro s x s' a w Q hR h hQ
    simp only [acode] at h
    refine wp_seq ?_
    split at h
    · rename_i s1 h1
      exact ih1 s .normal s1 a w _ hR h1 fun a' w' hR' => ih2 s1 x s' a' w' Q hR' h hQ
    · rename_i hn
      refine ih1 s x s' a w _ hR h fun a' w' hR' => ?_
      cases x with
      | normal => exact absurd h (hn s')
      | exit id => exact hQ a' w' hR'
      | ret => exact hQ a' w' hR'
  | cond c c1 c2 ih1 ih2 =>
    intro s x s' a w Q hR h hQ
    simp only [acode] at h
    have hg : ∀ b, get s.slot c = .bool b → a.eval c = .bool b := fun b hb => by
      obtain ⟨ν, F, cls, hI⟩ := hR
      have := get_den hI.gok hI.slots (a := a) c
      rw [hb] at this
      exact this.bool_
    split at h
    · rename_i hb
      exact wp_cond_true (hg true hb) (ih1 s x s' a w Q hR h hQ)
    · rename_i hb
      exact wp_cond_false (hg false hb) (ih2 s x s' a w Q hR h hQ)
    · cases h
  | block id c ih =>
    intro s x s' a w Q hR h hQ
    simp only [acode] at h
    refine wp_block ?_
    split at h
    · rename_i i s1 h1
      split at h
      · rename_i hi
        injection h with h
        injection h with h2 h3
        subst h2 h3 hi
        refine ih s (.exit i) s1 a w _ hR h1 fun a' w' hR' => ?_
        simp only [X.toExit, Exit.inBlock, if_true]
        exact hQ a' w' hR'
      · rename_i hi
        injection h with h
        injection h with h2 h3
        subst h2 h3
        refine ih s (.exit i) s1 a w _ hR h1 fun a' w' hR' => ?_
        simp only [X.toExit, Exit.inBlock, if_neg hi]
        exact hQ a' w' hR'
    · rename_i hn
      refine ih s x s' a w _ hR h fun a' w' hR' => ?_
      cases x with
      | normal => exact hQ a' w' hR'
      | exit i => exact absurd h (hn i s')
      | ret => exact hQ a' w' hR'
  | loop c ih =>
    intro s x s' a w Q hR h hQ
    simp only [acode] at h
    exact wp_loop_rounds N (loop_sound (f := acode P call N n res c) ih (aloop_ne N s h) hQ N s a w hR h)
  | exit id =>
    intro s x s' a w Q hR h hQ
    simp only [acode] at h
    injection h with h
    injection h with h1 h2
    subst h1 h2
    exact wp_exit (hQ _ _ hR)
  | ret =>
    intro s x s' a w Q hR h hQ
    simp only [acode] at h
    injection h with h
    injection h with h1 h2
    subst h1 h2
    exact wp_ret (hQ _ _ hR)
  | _ => intro s x s' a w Q hR h hQ; simp [acode] at h
end
end Go.Av
namespace Go.Av
open Go.RowKit
variable [Gs]

section
variable {P : Program} {n : Nat} {S0 : Gv} {F0 : Nat → Nat → Prop} {w0 : World} {ν : Nat → Nat → Nat} {F : Nat → Nat → Prop} {cls : Cl → Nat → Option Nat} {s : St} {a : Act} {w : World}

theorem Den0.comp0 {v : Value} {d : D} (h : Den0 F w v d) (hd : notAgg d = true) : comp v 0 = some v ∧ dcomp d 0 = some d := by
  cases h with
  | con v hv =>
    refine ⟨?_, rfl⟩
    cases v with
    | tuple vs => simp [isCon] at hv
    | agg vs => simp [isCon] at hv
    | _ => rfl
  | agg => cases hd
  | _ => exact ⟨rfl, rfl⟩
def rclaim (s : St) (cls : Cl → Nat → Option Nat) : ResultVar → Option Nat
  | .tmp t => if notAgg (s.slot t) = true then cls (.sl t) 0 else none
  | .cell _ _ => none
theorem rclaim_tmp {t g : Nat} (h : rclaim s cls (.tmp t) = some g) : cls (.sl t) 0 = some g := by
  simp only [rclaim] at h
  split at h
  · exact h
  · cases h
def rsem (a : Act) (r : ResultVar) : Sem Value := match r with
  | .tmp t => pure (a.tmps.getD t undef)
  | .cell b t => do loadVar t (← asAddr (a.tmps.getD b undef))
theorem rvar_sound (hI : Inv P n S0 F0 w0 ν F cls s a w) {v : ResultVar} {d : D} {m : List Room} (h : rvar P s v = some (d, m)) (hp : pureB d = true) :
    ∃ u, (rsem a v).run P w = .ok u w ∧ Den0 F w u d ∧ RoomAt P F w (some u) (some d) (some (room1 m)) (rclaim s cls v) := by
  cases v with
  | tmp t =>
    simp only [rvar] at h
    injection h with h
    injection h with h1 h2
    subst h1 h2
    have hd := (hI.slots t).pureB_ hp
    refine ⟨_, rfl, hd, ?_⟩
    have hr := hI.rooms t 0
    simp only [rclaim]
    by_cases hna : notAgg (s.slot t) = true
    · rw [if_pos hna, if_pos hna]
      have hcomp := hd.comp0 hna
      rw [hcomp.1, hcomp.2] at hr
      cases hroom : s.room t with
      | nil => rw [hroom] at hr; exact hr
      | cons r rest => rw [hroom] at hr; exact hr
    · rw [if_neg hna, if_neg hna]
      rfl
  | cell b t =>
    simp only [rvar] at h
    split at h
    · rename_i k g off hs
      split at h
      · rename_i bx hb
        split at h
        · rename_i hg
          obtain ⟨d', hd', he⟩ := Option.map_eq_some_iff.1 h
          injection he with h1 h2
          subst h1 h2
          have hsl := hI.slots b
          rw [hs] at hsl
          obtain ⟨u, hr, hd⟩ := box_load hI hsl hb hg hd'
          refine ⟨u, ?_, hd, rfl⟩
          obtain ⟨hv, _⟩ := hsl.ptr_
          simp only [rsem, hv, asAddr, Sem.run_bind, Sem.run_pure, Result.andThen_ok]
          simp only [hv, Instr.loadAt, Instr.sureAddr, Sem.run_bind, Sem.run_pure, Result.andThen_ok] at hr
          exact hr
        · cases h
      · cases h
    · cases h
theorem rvars_sound (hI : Inv P n S0 F0 w0 ν F cls s a w) : ∀ {l : List ResultVar} {ds : List (D × Room)}, rvars P s l = some ds →
    ∃ vs : List Value, (l.mapM (rsem a)).run P w = .ok vs w ∧ vs.length = ds.length ∧ l.length = ds.length ∧ (∀ (i : Nat) (v : Value) (x : D × Room), vs[i]? = some v → ds[i]? = some x → Den0 F w v x.1) ∧
      ∀ (i : Nat) (v : Value) (x : D × Room) (r : ResultVar), vs[i]? = some v → ds[i]? = some x → l[i]? = some r → RoomAt P F w (some v) (some x.1) (some x.2) (rclaim s cls r)
  | [], ds, h => by
    simp only [rvars] at h
    injection h with h
    subst h
    exact ⟨[], by simp, rfl, rfl, fun i v x hv => by simp at hv, fun i v x r hv => by simp at hv⟩
  | v :: l, ds, h => by
    simp only [rvars] at h
    split at h
    · rename_i d m l' h1 h2
      split at h
      · rename_i hp
        injection h with h
        subst h
        obtain ⟨u, hr, hd, hroom⟩ := rvar_sound hI h1 hp
        obtain ⟨vs, k1, k2, k3, k4, k5⟩ := rvars_sound hI h2
        refine ⟨u :: vs, ?_, by simp [k2], by simp [k3], ?_, ?_⟩
        · simp only [List.mapM_cons, Sem.run_bind, hr, Result.andThen_ok, k1, Sem.run_pure]
        · intro i v x hv hx
          cases i with
          | zero =>
            simp at hv hx
            subst hv hx
            exact hd
          | succ i => exact k4 i v x hv hx
        · intro i v x r hv hx hr
          cases i with
          | zero =>
            simp at hv hx hr
            subst hv hx hr
            exact hroom
          | succ i => exact k5 i v x r hv hx hr
      · cases h
    · cases h
theorem claims_apart (hI : Inv P n S0 F0 w0 ν F cls s a w) : ∀ {l : List ResultVar}, noTwice (l.filterMap fun | .tmp t => some t | _ => none) = true → ∀ (i j : Nat) (r r' : ResultVar) (g : Nat), l[i]? = some r → l[j]? = some r' → rclaim s cls r = some g → rclaim s cls r' = some g → i = j
  | [], _, i, j, r, r', g, h, _, _, _ => by simp at h
  | v :: l, hn, i, j, r, r', g, h1, h2, h3, h4 => by
    have hn' : noTwice (l.filterMap fun | .tmp t => some t | _ => none) = true := by
      cases v with
      | tmp t =>
        simp only [List.filterMap_cons, noTwice, Bool.and_eq_true] at hn
        exact hn.2
      | cell b t => simpa [List.filterMap_cons] using hn
    have far : ∀ (j : Nat) (r' : ResultVar), l[j]? = some r' → rclaim s cls v = some g → rclaim s cls r' = some g → False := by
      intro j r' hj hv hr
      cases v with
      | cell b t => cases hv
      | tmp t =>
        cases r' with
        | cell b t => cases hr
        | tmp t' =>
          obtain ⟨e, _⟩ := hI.inj _ _ _ _ _ (rclaim_tmp hv) (rclaim_tmp hr)
          injection e with e
          subst e
          simp only [List.filterMap_cons, noTwice, Bool.and_eq_true, Bool.not_eq_true', List.contains_eq_mem, decide_eq_false_iff_not] at hn
          exact hn.1 (List.mem_filterMap.2 ⟨.tmp t, List.mem_of_getElem? hj, rfl⟩)
    cases i with
    | zero =>
      cases j with
      | zero => rfl
      | succ j =>
        simp at h1 h2
        subst h1
        exact (far j r' h2 h3 h4).elim
    | succ i =>
      cases j with
      | zero =>
        simp at h1 h2
        subst h2
        exact (far i r h1 h4 h3).elim
      | succ j =>
        simp at h1 h2
        rw [claims_apart hI hn' i j r r' g h1 h2 h3 h4]

theorem finish_sound (hI : Inv P n S0 F0 w0 ν F cls s a w) {fn : Func} {d : D} {r : List Room} (h : finish P fn s = some (d, r)) :
    ∃ v ncl, (results fn a.tmps).run P w = .ok v w ∧ (∀ c ν, Den c ν F w v d) ∧ RoomsOK P F w v d r ncl ∧ (∀ i g, ncl i = some g → ∃ t, cls (.sl t) 0 = some g) ∧ ∀ i i' g, ncl i = some g → ncl i' = some g → i = i' := by
  unfold finish at h
  split at h
  · cases h
  rename_i hnt
  have hnt' : noTwice (resTmps fn) = true := by simpa using hnt
  have hsem : ∀ {vs : List Value}, (fn.results.toList.mapM (rsem a)).run P w = .ok vs w → (results fn a.tmps).run P w = .ok (if h : vs.toArray.size = 1 then vs.toArray[0] else .tuple vs.toArray) w := by
    intro vs hv
    have hres : results fn a.tmps = (do let vs ← fn.results.mapM (rsem a); pure (if h : vs.size = 1 then vs[0] else .tuple vs)) := by
      unfold results
      congr 1
    rw [hres, Sem.run_bind, Array.mapM_eq_mapM_toList]
    rw [show (Functor.map List.toArray (fn.results.toList.mapM (rsem a)) : Sem (Array Value)) = (do pure (← fn.results.toList.mapM (rsem a)).toArray) from rfl, Sem.run_bind, hv]
    rfl
  have loc : ∀ r g, rclaim s cls r = some g → ∃ t, cls (.sl t) 0 = some g := fun r g h => by
    cases r with
    | tmp t => exact ⟨t, rclaim_tmp h⟩
    | cell b t => cases h
  split at h
  · rename_i d' r' hr
    injection h with h
    injection h with h1 h2
    subst h1 h2
    obtain ⟨vs, k1, k2, k3, k4, k5⟩ := rvars_sound hI hr
    have hs := hsem k1
    match vs, k2, hs, k4, k5 with
    | [v], _, hs, k4, k5 =>
      obtain ⟨rv, hrv⟩ : ∃ rv, fn.results.toList = [rv] := List.length_eq_one_iff.1 (by simpa using k3)
      have hd := k4 0 v _ rfl rfl
      have hroom := k5 0 v _ rv rfl rfl (by rw [hrv]; rfl)
      refine ⟨v, fun i => if i = 0 then rclaim s cls rv else none, by simpa using hs, fun c ν => .pure _ _ hd, ?_, ?_, ?_⟩
      · intro i
        cases i with
        | zero =>
          by_cases hna : notAgg d' = true
          · have hcomp := hd.comp0 hna
            rw [hcomp.1, hcomp.2]
            exact hroom
          · cases d' with
            | agg cs =>
              match hq : r', hroom with
              | .no, hroom => exact hroom
              | .own e, ⟨u, es, _, h2, _⟩ => cases h2
              | .full, ⟨_, es, a', _, h2⟩ => cases h2
              | .fresh, ⟨_, es, _, _, _, _, h2, _⟩ => cases h2
            | _ => exact absurd rfl hna
        | succ i => simp [RoomAt]
      · intro i g hg
        simp only at hg
        split at hg
        · exact loc rv g hg
        · cases hg
      · intro i i' g hg hg'
        simp only at hg hg'
        split at hg
        · split at hg'
          · omega
          · cases hg'
        · cases hg
  · rename_i l hne hr
    injection h with h
    injection h with h1 h2
    subst h1 h2
    obtain ⟨vs, k1, k2, k3, k4, k5⟩ := rvars_sound hI hr
    have hs := hsem k1
    have hl1 : vs.toArray.size ≠ 1 := by
      simp only [List.size_toArray]
      intro h1
      rw [k2] at h1
      obtain ⟨x, hx⟩ := List.length_eq_one_iff.1 h1
      exact hne x.1 x.2 hx
    rw [dif_neg hl1] at hs
    refine ⟨_, fun i => (fn.results.toList[i]?).bind (rclaim s cls), hs, fun c ν => .tuple vs _ (by simp [k2]) ?_, ?_, ?_, ?_⟩
    · intro i v x hv hx
      rw [List.getElem?_map] at hx
      cases hli : l[i]? with
      | none => rw [hli] at hx; cases hx
      | some y =>
        rw [hli] at hx
        simp at hx
        subst hx
        exact .pure _ _ (k4 i v y hv hli)
    · intro i
      simp only [comp, dcomp, List.getElem?_map, List.getElem?_toArray]
      cases hli : l[i]? with
      | none =>
        have : fn.results.toList[i]? = none := by
          rw [List.getElem?_eq_none_iff] at hli ⊢
          omega
        simp [RoomAt, this]
      | some y =>
        obtain ⟨v, hv⟩ := getElem?_of_len k2.symm hli
        obtain ⟨rv, hrv⟩ := getElem?_of_len k3.symm hli
        simp only [hv, hrv, Option.map_some, Option.bind_some]
        exact k5 i v y rv hv hli hrv
    · intro i g hg
      obtain ⟨rv, _, hg⟩ := Option.bind_eq_some_iff.1 hg
      exact loc rv g hg
    · intro i i' g hg hg'
      obtain ⟨rv, h1, hg⟩ := Option.bind_eq_some_iff.1 hg
      obtain ⟨rv', h2, hg'⟩ := Option.bind_eq_some_iff.1 hg'
      exact claims_apart hI hnt' i i' rv rv' g h1 h2 hg hg'
  · cases h
end

theorem finishNew_sound {P : Program} {n : Nat} {S0 : Gv} {F0 : Nat → Nat → Prop} {w0 : World} {ν : Nat → Nat → Nat} {F : Nat → Nat → Prop} {cls : Cl → Nat → Option Nat} {s : St} {a : Act} {w : World}
    (hI : Inv P n S0 F0 w0 ν F cls s a w) {fn : Func} {b : Bx} (h : finishNew fn s = some b) (hS : ∀ k bx, s.box k = some bx → k < 1000000 → ¬ S0.B (ν k bx.gen)) :
    ∃ g k, (results fn a.tmps).run P w = .ok (.pointer (some ⟨g, 0, none⟩)) w ∧ w0.heap.size ≤ g ∧ g < w.heap.size ∧ BoxAt F w g b.cells ∧ BRooms P F w g b.cells b.rooms (cls (.bx k)) ∧ k < 1000000 ∧ ∀ j i g', cls j i = some g' → g ≠ g' := by
  unfold finishNew at h
  split at h
  · rename_i t hr
    split at h
    · rename_i k g hs
      split at h
      · rename_i hk
        split at h
        · rename_i bx hb
          split at h
          · rename_i hg
            injection h with h
            subst h hg
            have hsl := hI.slots t
            rw [hs] at hsl
            obtain ⟨hv, _⟩ := hsl.ptr_
            have hr' : fn.results = #[.tmp t] := by apply Array.ext'; exact hr
            obtain ⟨h1, _, h3⟩ := hI.boxes k bx hb
            refine ⟨ν k bx.gen, k, ?_, h3.resolve_left (hS k bx hb hk), box_lt hI hb, h1, hI.brooms k bx hb, hk, fun j i g' hg' => hI.sep _ _ _ _ _ hg' hb⟩
            rw [results_tmp hr', hv]
          · cases h
        · cases h
      · cases h
    · cases h
  · cases h
theorem claim_ok {P : Program} {n m : Nat} {μ : Mu} {F0 : Nat → Nat → Prop} {w0 : World} {ν : Nat → Nat → Nat} {F : Nat → Nat → Prop} {cls : Cl → Nat → Option Nat} {s : St} {a : Act} {w : World}
    (hI : Inv P n ⟨m, μ⟩ F0 w0 ν F cls s a w) {j : Cl} {i g : Nat} (h : cls j i = some g) : g < w.heap.size ∧ (w0.heap.size ≤ g ∨ (Gv.mk m μ).C g) ∧ ¬ (Gv.mk m μ).B g := by
  refine ⟨(hI.loc _ _ _ h).1, (hI.loc _ _ _ h).2, ?_⟩
  rintro ⟨i', hi, he⟩
  obtain ⟨b, h1, h2, h3⟩ := hI.given i' hi
  exact hI.sep _ _ _ _ _ h h1 (by rw [h2, h3]; exact he)
theorem sound {P : Program} (hP : Fine P) (hdraw : ∀ call, CallOK P call → DrawOK P call) {ext : Call} (hext : CallOK P ext) : ∀ N, CallOK P (aev P ext N) := by
  intro N
  induction N with
  | zero => intro f args pbs d r pbs' h; simp [aev] at h
  | succ N ih =>
    intro f args pbs d r pbs' h
    simp only [aev] at h
    split at h
    · rename_i r0 hr0
      injection h with h
      subst h
      exact hext f args pbs d r pbs' hr0
    split at h
    · cases h
    rename_i fn hf
    split at h
    · cases h
    rename_i c hb
    refine ⟨⟨fn, hf, by rw [hb]; rfl⟩, ?_⟩
    intro vals w F μ hl hd hbx hμ hlt hgok
    refine calls_of_wp hf hb ?_
    have hsz : vals.toArray.size = args.length := by simpa using hl
    obtain ⟨hμ1, hμ2, hμ3⟩ := hμ
    have hInv : Inv P (max args.length fn.ntmps) ⟨pbs.length, μ⟩ F w (argNu μ) F (fun j o => match j with | .sl _ => none | .bx k => if 1000000 ≤ k then μ.cl (k - 1000000) o else none) (entry args pbs) { tmps := vals.toArray ++ Array.replicate (fn.ntmps - vals.toArray.size) undef, defers := [] } w := by
      have hcl : ∀ {j : Cl} {i g : Nat}, (match j with | .sl _ => none | .bx k => if 1000000 ≤ k then μ.cl (k - 1000000) i else none) = some g → ∃ k, j = .bx k ∧ 1000000 ≤ k ∧ μ.cl (k - 1000000) i = some g := by
        intro j i g h
        cases j with
        | sl _ => cases h
        | bx k =>
          simp only at h
          split at h
          · exact ⟨k, rfl, ‹_›, h⟩
          · cases h
      refine ⟨Ext.refl _ _ _, hlt, fun b o h => .inl h, ?_, rfl, ?_, ?_, fun j i j' i' g h h' => ?_, fun j i g k bx h hb he => ?_, fun j i g h => ?_, ?_, ?_, ?_, ?_, hgok⟩
      · simp only [Array.size_append, Array.size_replicate, hsz]
        omega
      · intro j
        simp only [entry]
        by_cases hj : j < args.length
        · have hjv : j < vals.length := by omega
          have e1 : (vals.toArray ++ Array.replicate (fn.ntmps - vals.toArray.size) undef).getD j undef = vals[j] := by
            simp [Array.getD_eq_getD_getElem?, Array.getElem?_append, hjv]
          have e2 : args.getD j (.tuple []) = args[j] := by simp [List.getD, hj]
          rw [e1, e2]
          exact hd j _ _ (List.getElem?_eq_getElem hjv) (List.getElem?_eq_getElem hj)
        · have e1 : (vals.toArray ++ Array.replicate (fn.ntmps - vals.toArray.size) undef).getD j undef = undef := by
            have hjv : ¬ j < vals.length := by omega
            simp only [Array.getD_eq_getD_getElem?, Array.getElem?_append, List.size_toArray, hjv, if_false, Array.getElem?_replicate]
            split <;> rfl
          have e2 : args.getD j (.tuple []) = .tuple [] := by simp [List.getD, List.getElem?_eq_none (Nat.le_of_not_lt hj)]
          rw [e1, e2]
          exact .tuple [] [] rfl (fun i v x hv => by simp at hv)
      · intro j
        exact rooms_nil
      · obtain ⟨k, rfl, hk, h⟩ := hcl h
        obtain ⟨k', rfl, hk', h'⟩ := hcl h'
        obtain ⟨e1, e2⟩ := hμ2 _ _ _ _ _ h h'
        have e3 : k = k' := by omega
        exact ⟨by rw [e3], e2⟩
      · obtain ⟨k', rfl, hk', h⟩ := hcl h
        simp only [entry] at hb
        split at hb
        · exact (hμ3 _ _ _ h).2.2 (k - 1000000) (List.getElem?_eq_some_iff.1 hb).1 he
        · cases hb
      · obtain ⟨k', rfl, hk', h⟩ := hcl h
        obtain ⟨q1, q2, _⟩ := hμ3 _ _ _ h
        exact ⟨q2, .inr ⟨_, _, q1, h⟩⟩
      · intro k bx hk
        simp only [entry] at hk
        split at hk
        · rename_i hge
          obtain ⟨h1, h2, _⟩ := hbx _ bx hk
          exact ⟨h1, by rw [h2]; exact Nat.zero_lt_one, .inl ⟨k - 1000000, (List.getElem?_eq_some_iff.1 hk).1, rfl⟩⟩
        · cases hk
      · intro k bx hk
        simp only [entry] at hk
        split at hk
        · rename_i hge
          obtain ⟨_, _, h3⟩ := hbx _ bx hk
          simp only [if_pos hge]
          exact h3
        · cases hk
      · intro k bx k' bx' h1 h2 he
        simp only [entry] at h1 h2
        split at h1
        · split at h2
          · have := hμ1 _ _ (List.getElem?_eq_some_iff.1 h1).1 (List.getElem?_eq_some_iff.1 h2).1 he
            omega
          · cases h2
        · cases h1
      · intro i hi
        have hi' : i < pbs.length := hi
        refine ⟨pbs[i], ?_, (hbx i _ (List.getElem?_eq_getElem hi')).2.1, ?_⟩
        · simp [entry, pid, hi']
        · simp [argNu, pid]
    have gv : ∀ {s' : St} {a' : Act} {w' : World} {ν : Nat → Nat → Nat} {F' : Nat → Nat → Prop} {cls : Cl → Nat → Option Nat}, Inv P (max args.length fn.ntmps) ⟨pbs.length, μ⟩ F w ν F' cls s' a' w' → ∀ i bx, i < pbs.length → ((List.range pbs.length).map fun i => (s'.box (pid i)).getD default)[i]? = some bx → BoxAt F' w' (μ.bl i) bx.cells ∧ BRooms P F' w' (μ.bl i) bx.cells bx.rooms (cls (.bx (pid i))) := by
      intro s' a' w' ν F' cls hI i bx hilt hi
      rw [List.getElem?_map] at hi
      cases hr : (List.range pbs.length)[i]? with
      | none => rw [hr] at hi; cases hi
      | some j =>
        rw [hr] at hi
        obtain ⟨hlt', hj⟩ := List.getElem?_eq_some_iff.1 hr
        simp at hj hlt'
        subst hj
        simp at hi
        obtain ⟨b0, h1, h2, h3⟩ := hI.given i hlt'
        rw [h1] at hi
        simp at hi
        subst hi
        have := (hI.boxes _ _ h1).1
        have hr := hI.brooms _ _ h1
        rw [h2, h3] at this hr
        exact ⟨this, hr⟩
    have fin : ∀ (s' : St) (a' : Act) (w' : World), Rep P (max args.length fn.ntmps) ⟨pbs.length, μ⟩ F w s' a' w' → (match finish P fn s' with
        | some (d, r) => some (d, r, (List.range pbs.length).map fun i => (s'.box (pid i)).getD default)
        | none => (finishNew fn s').map fun b => (.ptr nid 0 0, [], ((List.range pbs.length).map fun i => (s'.box (pid i)).getD default) ++ [b])) = some (d, r, pbs') → a'.defers = [] ∧ ∃ v, (results fn a'.tmps).run P w' = .ok v w' ∧ Ret P pbs.length μ F w d r pbs' (.returned v) w' := by
      intro s' a' w' ⟨ν, F', cls, hI⟩ hfin
      split at hfin
      · rename_i d' r' hfn
        injection hfin with hfin
        injection hfin with h1 h2
        injection h2 with h2 h3
        subst h1 h2 h3
        obtain ⟨v, ncl, k1, k2, k3, k4, k5⟩ := finish_sound hI hfn
        have hc : ∀ {j : Cl} {i g : Nat}, (match j with | .sl 0 => ncl i | .sl _ => none | .bx k => if k < pbs.length then cls (.bx (pid k)) i else none) = some g → (∃ t, j = .sl 0 ∧ ncl i = some g ∧ cls (.sl t) 0 = some g) ∨ ∃ k, j = .bx k ∧ k < pbs.length ∧ cls (.bx (pid k)) i = some g := by
          intro j i g h
          match j, h with
          | .sl 0, h => obtain ⟨t, ht⟩ := k4 i g h; exact .inl ⟨t, rfl, h, ht⟩
          | .bx k, h =>
            simp only at h
            split at h
            · exact .inr ⟨k, rfl, ‹_›, h⟩
            · cases h
        refine ⟨hI.defers, v, k1, v, F', fun j i => match j with | .sl 0 => ncl i | .sl _ => none | .bx k => if k < pbs.length then cls (.bx (pid k)) i else none, rfl, hI.ext, hI.lt, hI.news, .inl ⟨by simp, k2, k3⟩, fun j i g h => ?_, fun j i j' i' g h h' => ?_, fun i bx hi hbx => ?_⟩
        · have hcl : ∃ j' i', cls j' i' = some g := by
            rcases hc h with ⟨t, _, _, h⟩ | ⟨k, _, _, h⟩
            · exact ⟨_, _, h⟩
            · exact ⟨_, _, h⟩
          obtain ⟨j', i', hcl⟩ := hcl
          exact claim_ok hI hcl
        · rcases hc h with ⟨t, rfl, e1, q1⟩ | ⟨k, rfl, hk, q1⟩ <;> rcases hc h' with ⟨t', rfl, e2, q2⟩ | ⟨k', rfl, hk', q2⟩
          · exact ⟨rfl, k5 _ _ _ e1 e2⟩
          · exact absurd (hI.inj _ _ _ _ _ q1 q2).1 (by simp)
          · exact absurd (hI.inj _ _ _ _ _ q1 q2).1 (by simp)
          · obtain ⟨e3, e4⟩ := hI.inj _ _ _ _ _ q1 q2
            injection e3 with e3
            unfold pid at e3
            exact ⟨by congr 1; omega, e4⟩
        · obtain ⟨g1, g2⟩ := gv hI i bx hi hbx
          refine ⟨g1, ?_⟩
          simp only [if_pos hi]
          exact g2
      · obtain ⟨b, hb0, hfin⟩ := Option.map_eq_some_iff.1 hfin
        injection hfin with h1 h2
        injection h2 with h2 h3
        subst h1 h2 h3
        obtain ⟨g, kk, k1, k2, k3, k4, k5, k6, k7⟩ := finishNew_sound hI hb0 (fun k bx hbk hk hS => by
          obtain ⟨i, hi, he⟩ := hS
          obtain ⟨b1, g1, g2, g3⟩ := hI.given i hi
          have := hI.binj (pid i) b1 k bx g1 hbk (by rw [g2, g3]; exact he)
          unfold pid at this
          omega)
        have hc : ∀ {j : Cl} {i g : Nat}, (match j with | .sl _ => none | .bx k => if k < pbs.length then cls (.bx (pid k)) i else if k = pbs.length then cls (.bx kk) i else none) = some g → ∃ k k', j = .bx k ∧ cls (.bx k') i = some g ∧ (k < pbs.length ∧ k' = pid k ∨ k = pbs.length ∧ k' = kk) := by
          intro j i g h
          match j, h with
          | .bx k, h =>
            simp only at h
            split at h
            · exact ⟨k, _, rfl, h, .inl ⟨‹_›, rfl⟩⟩
            · split at h
              · exact ⟨k, _, rfl, h, .inr ⟨‹_›, rfl⟩⟩
              · cases h
        refine ⟨hI.defers, _, k1, _, F', fun j i => match j with | .sl _ => none | .bx k => if k < pbs.length then cls (.bx (pid k)) i else if k = pbs.length then cls (.bx kk) i else none, rfl, hI.ext, hI.lt, hI.news, .inr ⟨by simp, g, rfl, k2, k3, fun bx hbx => ?_, fun j i g' h => ?_⟩, fun j i g h => ?_, fun j i j' i' g h h' => ?_, fun i bx hi hbx => ?_⟩
        · rw [List.getElem?_append_right (by simp)] at hbx
          simp at hbx
          subst hbx
          refine ⟨k4, ?_⟩
          simp only [Nat.lt_irrefl, if_false, if_true]
          exact k5
        · obtain ⟨_, _, _, h, _⟩ := hc h
          exact k7 _ _ _ h
        · obtain ⟨_, _, _, h, _⟩ := hc h
          exact claim_ok hI h
        · obtain ⟨a1, b1, rfl, q1, c1⟩ := hc h
          obtain ⟨a2, b2, rfl, q2, c2⟩ := hc h'
          obtain ⟨e3, e4⟩ := hI.inj _ _ _ _ _ q1 q2
          injection e3 with e3
          unfold pid at c1 c2
          exact ⟨by congr 1; omega, e4⟩
        · obtain ⟨g1, g2⟩ := gv hI i bx hi (by
            rw [List.getElem?_append_left (by simpa using hi)] at hbx
            exact hbx)
          refine ⟨g1, ?_⟩
          simp only [if_pos hi]
          exact g2
    unfold leaving at h
    split at h
    · rename_i s' hc
      exact code_sound hP ih (hdraw _ ih) c _ .normal s' _ w _ ⟨_, _, _, hInv⟩ hc fun a' w' hR => fin s' a' w' hR h
    · rename_i s' hc
      exact code_sound hP ih (hdraw _ ih) c _ .ret s' _ w _ ⟨_, _, _, hInv⟩ hc fun a' w' hR => fin s' a' w' hR h
    · cases h
end Go.Av
namespace Go.Av
open Go.RowKit
variable [Gs]

theorem get_tmp (f : Nat → D) (k : Tmp) : get f (.tmp k) = f k := rfl
def St.clr (s : St) : Option (Nat × Nat) → St
  | none => s
  | some (k, off) => { s with box := upd s.box k ((s.box k).map fun b => ⟨b.gen, b.cells, b.rooms.set off .no⟩) }
def St.eff (s : St) (tk : Option (Tmp × Option Nat)) (bt : Option (Nat × Nat)) (dst : Option Tmp) (d : D) (r : List Room) : St := ((s.demote tk).clr bt).put dst d r
def tval (P : Program) (o : Oper) (s : St) : Option ((Nat × Nat) × D × List Room) :=
  match o.op with
  | .load t a => (match get s.slot a with
    | .ptr k g off => (match s.box k with
      | some bx => if bx.gen = g then (match dpart P t bx.cells off with
          | some (.list es) => some ((k, off), .list es, [(bx.rooms[off]?).getD .no])
          | _ => none) else none
      | none => none)
    | _ => none)
  | _ => none
def dval (P : Program) (call : Call) (n : Nat) (E : List Tmp) (ops : List Oper) (o : Oper) (s : St) : Option (Option (Tmp × Option Nat) × Option (Nat × Nat) × D × List Room) :=
  if inB n o then
    match dwanted ops s o with
    | none => none
    | some false => some (none, none, .tuple [], [])
    | some true => match o.op with
      | .alloc _ | .box _ _ | .store _ _ _ => none
      | .load _ _ => if loadsOwn (allocKeys ops) s.slot o then none else if takes P E s.slot o then (tval P o s).map fun x => (none, some x.1, x.2.1, x.2.2) else (sval P call s.slot s.box (s.taken (stake E o)) o).map fun x => (stake E o, none, x.1, x.2)
      | .call _ => if (ptrArgs o s.slot).isSome then none else (sval P call s.slot s.box (s.taken (stake E o)) o).map fun x => (stake E o, none, x.1, x.2)
      | _ => (sval P call s.slot s.box (s.taken (stake E o)) o).map fun x => (stake E o, none, x.1, x.2)
  else none
def locA (k : Nat) (z : List D) (q : List Room) (s : St) : St := { s.setBox k (some ⟨s.ctr k, z, q⟩) with ctr := upd s.ctr k (s.ctr k + 1) }.put (some k) (.ptr k (s.ctr k) 0) []
section
variable {P : Program} {n : Nat} {call : Call} {E : List Tmp} {ops : List Oper} {o : Oper} {s s' : St}

theorem stepS_val : stepS P call E o s = ((sval P call s.slot s.box (s.taken (stake E o)) o).map fun x => (stake E o, (none : Option (Nat × Nat)), x.1, x.2)).map fun x => s.eff x.1 x.2.1 o.dst x.2.2.1 x.2.2.2 := by
  unfold stepS
  cases sval P call s.slot s.box (s.taken (stake E o)) o <;> rfl
theorem stepTake_val : stepTake P o s = ((tval P o s).map fun x => ((none : Option (Tmp × Option Nat)), some x.1, x.2.1, x.2.2)).map fun x => s.eff x.1 x.2.1 o.dst x.2.2.1 x.2.2.2 := by
  unfold stepTake tval
  cases hop : o.op with
  | load t a =>
    simp only
    cases hga : get s.slot a with
    | ptr k g off =>
      simp only
      cases hb : s.box k with
      | none => rfl
      | some bx =>
        simp only
        by_cases hg : bx.gen = g
        · rw [if_pos hg, if_pos hg]
          cases hd : dpart P t bx.cells off with
          | none => rfl
          | some d =>
            cases d with
            | list es => simp only [Option.map_some, St.eff, St.demote, St.clr, hb, St.setBox, hg]
            | _ => rfl
        · rw [if_neg hg, if_neg hg]; rfl
    | _ => rfl
  | _ => rfl
theorem stepD_val (hl : isLocal (allocKeys ops) o = false) : stepD P call n E ops o s = (dval P call n E ops o s).map fun x => s.eff x.1 x.2.1 o.dst x.2.2.1 x.2.2.2 := by
  unfold stepD dval
  split
  · cases dwanted ops s o with
    | none => rfl
    | some b =>
      cases b with
      | false => simp only [hl, Bool.false_eq_true, if_false]; rfl
      | true =>
        simp only
        cases hop : o.op with
        | call c =>
          have hk : ¬ (callKey o).isSome = true := by simp only [isLocal, hop] at hl; rw [hl]; exact Bool.false_ne_true
          simp only
          rw [if_neg hk]
          split
          · rfl
          · exact stepS_val
        | load t a =>
          simp only
          split
          · rfl
          · split
            · exact stepTake_val
            · exact stepS_val
        | alloc _ => simp [isLocal, hop] at hl
        | box _ _ => rfl
        | store t a x =>
          cases a with
          | tmp k =>
            simp only [isLocal, hop] at hl
            simp only
            rw [if_neg (fun h => by rw [h.1] at hl; cases hl)]
            rfl
          | _ => rfl
        | _ => exact stepS_val
  · rfl
theorem pOk_some (h : pOk s.slot o = true) : (ptrArgs o s.slot).isSome = true := by
  unfold pOk at h
  split at h
  · rename_i hp _
    rw [hp]
    rfl
  · cases h
theorem pOk_key (h : pOk s.slot o = true) : ∃ k g, ptrArgs o s.slot = some (k, g) ∧ callKey o = some k := by
  unfold pOk at h
  split at h
  · rename_i k g K hp hk
    have e : k = K := by simpa using h
    subst e
    exact ⟨k, g, hp, hk⟩
  · cases h
def ptrVal (call : Call) (o : Oper) (s : St) : Option (Nat × Bx × D × List Room) :=
  match callArgs o s.slot with
  | some (g, args) => (match ptrIn args with
    | some (k, gn) => (match s.box k with
      | some bx => if bx.gen = gn ∧ args.all argOk = true then (match call g (args.map (ren k gn)) [⟨0, bx.cells, bx.rooms⟩] with
          | some (d, r, [b']) => some (k, ⟨gn, b'.cells, b'.rooms⟩, d, r)
          | _ => none) else none
      | none => none)
    | none => none)
  | none => none
theorem stepPtr_val : stepPtr call o s = (ptrVal call o s).map fun x => (s.setBox x.1 (some x.2.1)).put o.dst x.2.2.1 x.2.2.2 := by
  unfold stepPtr ptrVal
  cases callArgs o s.slot with
  | none => rfl
  | some ga =>
    obtain ⟨g, args⟩ := ga
    simp only
    cases ptrIn args with
    | none => rfl
    | some kg =>
      obtain ⟨k, gn⟩ := kg
      simp only
      cases s.box k with
      | none => rfl
      | some bx =>
        simp only
        split
        · cases hr : call g (args.map (ren k gn)) [⟨0, bx.cells, bx.rooms⟩] with
          | none => rfl
          | some x =>
            obtain ⟨d, r, bs⟩ := x
            match bs with
            | [] => rfl
            | [b'] => rfl
            | _ :: _ :: _ => rfl
        · rfl
theorem ptrVal_key {x : Nat × Bx × D × List Room} (h : ptrVal call o s = some x) : ∃ g, ptrArgs o s.slot = some (x.1, g) := by
  unfold ptrVal at h
  unfold ptrArgs
  split at h
  · rename_i g args hca
    rw [hca]
    split at h
    · rename_i k gn hp
      split at h
      · split at h
        · split at h
          · injection h with h
            subst h
            exact ⟨gn, hp⟩
          · cases h
        · cases h
      · cases h
    · cases h
  · cases h
theorem stepD_step (h : stepD P call n E ops o s = some s') : step P call n E ops o s = some s' := by
  unfold stepD at h
  unfold step
  split at h
  · rename_i hin
    rw [if_pos hin]
    cases hw : dwanted ops s o with
    | none => rw [hw] at h; cases h
    | some b =>
      rw [hw] at h
      cases b with
      | false =>
        simp only at h ⊢
        split at h
        · cases h
        · exact h
      | true =>
        simp only at h ⊢
        cases hop : o.op with
        | alloc _ =>
          simp only [hop] at h ⊢
          split at h
          · exact h
          · cases h
        | box _ _ => simp [hop] at h
        | store t a x =>
          cases a with
          | tmp k =>
            simp only [hop] at h ⊢
            split at h
            · exact h
            · cases h
          | _ => simp [hop] at h
        | load t a =>
          simp only [hop] at h ⊢
          split at h
          · cases h
          · exact h
        | call c =>
          simp only [hop] at h ⊢
          split at h
          · split at h
            · rename_i hp
              rw [if_pos (pOk_some hp.2)]
              exact h
            · cases h
          · split at h
            · cases h
            · rename_i hn
              rw [if_neg hn, h]
              rfl
        | _ =>
          simp only [hop] at h ⊢
          rw [if_neg (by simp [takes, hop])]
          exact h
  · cases h
inductive Lv where
  | made (k : Nat) (z : List D) (q : List Room)
  | put (k : Nat) (b : Bx) (tk : Option (Tmp × Option Nat))
  | called (k : Nat) (b : Bx) (dst : Option Tmp) (d : D) (r : List Room)
def Lv.app : Lv → St → St
  | .made k z q, s => locA k z q s
  | .put k b tk, s => (s.demote tk).setBox k (some b)
  | .called k b dst d r, s => (s.setBox k (some b)).put dst d r
def Lv.key : Lv → Nat
  | .made k _ _ => k
  | .put k _ _ => k
  | .called k _ _ _ _ => k
def Lv.tk : Lv → Option (Tmp × Option Nat)
  | .made _ _ _ => none
  | .put _ _ tk => tk
  | .called _ _ _ _ _ => none
def LocOp (o : Oper) (v : Lv) (slot : Nat → D) : Prop :=
  (∃ t, o.op = .alloc t ∧ o.dst = some v.key) ∨ (∃ t x, o.op = .store t (.tmp v.key) x ∧ o.dst = none ∧ ptrAt slot v.key = true) ∨ (∃ c, o.op = .call c ∧ callKey o = some v.key ∧ pOk slot o = true)
def lval (P : Program) (call : Call) (o : Oper) (s : St) : Option Lv :=
  match o.op with
  | .alloc t => (match o.dst, zeroOf P t with
    | some k, some z => if z.all leaf = true ∧ k < 1000000 then some (.made k z (zrooms P t)) else none
    | _, _ => none)
  | .store t (.tmp k) x => (match s.slot k, sizeT P t with
    | .ptr _ g off, some n => (match s.box k with
      | some bx => if bx.gen = g ∧ (dcells (get s.slot x)).length = n ∧ off + n ≤ bx.cells.length ∧ pureB (get s.slot x) = true then
          some (.put k ⟨g, bx.cells.take off ++ dcells (get s.slot x) ++ bx.cells.drop (off + n), putR bx.rooms off n (oroom s.room x)⟩ (given x)) else none
      | none => none)
    | _, _ => none)
  | .call _ => (ptrVal call o s).map fun x => .called x.1 x.2.1 o.dst x.2.2.1 x.2.2.2
  | _ => none
theorem stepD_local (hl : isLocal (allocKeys ops) o = true) (h : stepD P call n E ops o s = some s') : ∃ v, lval P call o s = some v ∧ s' = v.app s ∧ (allocKeys ops).contains v.key = true ∧ inB n o = true ∧ dwanted ops s o = some true ∧
    LocOp o v s.slot := by
  unfold stepD at h
  split at h
  · rename_i hin
    split at h
    · cases h
    · cases h
    · rename_i hw
      unfold isLocal at hl
      cases hop : o.op with
      | alloc t =>
        simp only [hop] at h
        split at h
        · rename_i hk
          unfold stepBox at h
          simp only [hop] at h
          unfold lval
          simp only [hop]
          split at h
          · rename_i k z hd hz
            split at h
            · rename_i hc
              injection h with h
              subst h
              rw [hd, hz]
              simp only
              rw [if_pos hc]
              exact ⟨_, rfl, rfl, by rw [hd] at hk; exact hk, hin, hw, .inl ⟨t, hop, hd⟩⟩
            · cases h
          · cases h
        · cases h
      | store t a x =>
        cases a with
        | tmp k =>
          simp only [hop] at h
          split at h
          · rename_i hk
            obtain ⟨hk1, hk2, hk3⟩ := hk
            have hpt := hk3
            unfold ptrAt at hk3
            unfold stepBox at h
            simp only [hop, get_tmp] at h
            unfold lval
            simp only [hop]
            split at h
            · rename_i k' g off m hs hm
              rw [hs] at hk3
              have hkk : k' = k := by simpa using hk3
              subst hkk
              rw [hs, hm]
              simp only
              split at h
              · rename_i bx hb
                rw [hb]
                simp only
                split at h
                · rename_i hc
                  injection h with h
                  subst h
                  rw [if_pos hc]
                  exact ⟨_, rfl, by rw [hk2]; rfl, hk1, hin, hw, .inr (.inl ⟨t, x, hop, hk2, hpt⟩)⟩
                · cases h
              · cases h
            · cases h
          · cases h
        | _ => simp [hop] at h
      | call c =>
        simp only [hop] at hl h
        rw [if_pos hl] at h
        split at h
        · rename_i hp
          obtain ⟨k, g, hpa, hck⟩ := pOk_key hp.2
          rw [stepPtr_val] at h
          obtain ⟨x, hx, rfl⟩ := Option.map_eq_some_iff.1 h
          obtain ⟨g', hxa⟩ := ptrVal_key hx
          rw [hpa] at hxa
          injection hxa with hxa
          have hk : k = x.1 := congrArg Prod.fst hxa
          refine ⟨.called x.1 x.2.1 o.dst x.2.2.1 x.2.2.2, ?_, rfl, ?_, hin, hw, .inr (.inr ⟨c, hop, ?_, hp.2⟩)⟩
          · unfold lval
            simp only [hop, hx]
            rfl
          · have := hp.1
            rw [hck] at this
            show (allocKeys ops).contains x.1 = true
            rw [← hk]
            exact this
          · show callKey o = some x.1
            rw [← hk]
            exact hck
        · cases h
      | _ => simp [hop] at hl
  · cases h
theorem stepD_of_local {v : Lv} (hv : lval P call o s = some v) (hk : (allocKeys ops).contains v.key = true) (hin : inB n o = true) (hw : dwanted ops s o = some true)
    (ho : LocOp o v s.slot) : stepD P call n E ops o s = some (v.app s) := by
  unfold stepD
  rw [if_pos hin, hw]
  simp only
  rcases ho with ⟨t, hop, hd⟩ | ⟨t, x, hop, hd, hp⟩ | ⟨c, hop, hck, hp⟩
  rotate_left 2
  · simp only [hop]
    rw [if_pos (by rw [hck]; rfl), if_pos ⟨by rw [hck]; exact hk, hp⟩, stepPtr_val]
    unfold lval at hv
    simp only [hop] at hv
    obtain ⟨x, hx, hv⟩ := Option.map_eq_some_iff.1 hv
    rw [hx, ← hv]
    rfl
  · simp only [hop]
    rw [if_pos (by rw [hd]; exact hk)]
    unfold lval at hv
    simp only [hop] at hv
    unfold stepBox
    simp only [hop]
    rw [hd] at hv ⊢
    cases hz : zeroOf P t with
    | none => rw [hz] at hv; cases hv
    | some z =>
      rw [hz] at hv
      simp only at hv ⊢
      split at hv
      · rename_i hc
        rw [if_pos hc]
        injection hv with hv
        cases v with
        | made k z0 q =>
          injection hv with h1 h2 h3
          subst h2 h3
          rfl
        | put k b tk => cases hv
        | called k b dst d r => cases hv
      · cases hv
  · simp only [hop]
    rw [if_pos ⟨hk, hd, hp⟩]
    unfold lval at hv
    simp only [hop] at hv
    unfold stepBox
    simp only [hop, get_tmp]
    unfold ptrAt at hp
    cases hs : s.slot v.key with
    | ptr k' g off =>
      rw [hs] at hp hv
      have hkk : k' = v.key := by simpa using hp
      cases hm : sizeT P t with
      | none => rw [hm] at hv; cases hv
      | some m =>
        rw [hm] at hv
        simp only at hv ⊢
        rw [hkk]
        cases hb : s.box v.key with
        | none => rw [hb] at hv; cases hv
        | some bx =>
          rw [hb] at hv
          simp only at hv ⊢
          split at hv
          · rename_i hc
            rw [if_pos hc, hd]
            injection hv with hv
            cases v with
            | made k z0 q => cases hv
            | put k b tk =>
              injection hv with h1 h2 h3
              rw [← h2, ← h3]
              rfl
            | called k b dst d r => cases hv
          · cases hv
    | _ => rw [hs] at hp; cases hp

theorem get_congr {f g : Nat → D} {x : Operand} (h : ∀ t, x = .tmp t → f t = g t) : get f x = get g x := by
  cases x with
  | tmp t => exact h t rfl
  | _ => rfl
theorem map_get_congr {f g : Nat → D} {xs : List Operand} (h : ∀ x ∈ xs, get f x = get g x) : xs.map (get f) = xs.map (get g) := List.map_congr_left h
def bxc (b : Bx) : Nat × List D := (b.gen, b.cells)
theorem sval_congr {f g : Nat → D} {box box' : Nat → Option Bx} {rm : List Room} (h : ∀ x ∈ o.op.operands, get f x = get g x) (hb : ∀ t a k g' off, o.op = .load t a → get f a = .ptr k g' off → (box k).map bxc = (box' k).map bxc) : sval P call f box rm o = sval P call g box' rm o := by
  obtain ⟨dst, op, ty, pos, after, guard⟩ := o
  have pairs : ∀ ps : Array (Nat × Operand), (∀ x ∈ (ps.toList.map (·.2)).toArray, get f x = get g x) → (ps.toList.map fun p => (p.1, get f p.2)) = ps.toList.map fun p => (p.1, get g p.2) := fun ps hp =>
    List.map_congr_left fun p hm => by rw [hp p.2 (by simp; exact ⟨p.1, by simpa using hm⟩)]
  cases op <;> simp only [Op.operands] at h <;> simp only [sval]
  case build t ps => rw [pairs ps h]
  case buildSlice t m ps => rw [pairs ps h]
  case makeFunc fn first captured =>
    rw [map_get_congr (xs := first.toList) fun x hx => h x (by simp; exact .inl (by simpa using hx)), map_get_congr (xs := captured.toList) fun x hx => h x (by simp; exact .inr (by simpa using hx))]
  case call c =>
    obtain ⟨callee, args, ats⟩ := c
    have ha : args.toList.map (get f) = args.toList.map (get g) := map_get_congr fun x hx => h x (by simp [Call.operands]; exact .inr (by simpa using hx))
    cases callee with
    | value x =>
      have hx : get f x = get g x := h x (by simp [Call.operands])
      simp only [hx, ha]
    | invoke r m => rfl
    | builtin b =>
      cases b <;> simp only [ha]
      case append =>
        split
        · rename_i x y hargs
          have h1 : get f x = get g x := h x (by simp [Call.operands]; rw [← Array.mem_toList_iff, hargs]; simp)
          have h2 : get f y = get g y := h y (by simp [Call.operands]; rw [← Array.mem_toList_iff, hargs]; simp)
          rw [h1, h2]
        · rfl
      case len =>
        split
        · rename_i x hargs
          have h1 : get f x = get g x := h x (by simp [Call.operands]; rw [← Array.mem_toList_iff, hargs]; simp)
          rw [h1]
        · rfl
  case load t a =>
    have ha : get f a = get g a := h a (by simp)
    rw [← ha]
    cases hfa : get f a with
    | ptr k g' off =>
      have hbb := hb t a k g' off rfl hfa
      simp only
      cases h1 : box k with
      | none =>
        rw [h1] at hbb
        cases h2 : box' k with
        | none => rfl
        | some b2 => rw [h2] at hbb; cases hbb
      | some b1 =>
        rw [h1] at hbb
        cases h2 : box' k with
        | none => rw [h2] at hbb; cases hbb
        | some b2 =>
          rw [h2] at hbb
          simp only [Option.map_some, bxc, Option.some.injEq, Prod.mk.injEq] at hbb
          simp only [hbb.1, hbb.2]
    | _ => rfl
  case slice t x lo hi mx => cases lo <;> cases hi <;> cases mx <;> simp_all
  case lookup t x i b =>
    cases b with
    | true => rfl
    | false =>
      have h1 : get f x = get g x := h x (by simp)
      have h2 : get f i = get g i := h i (by simp)
      show (dlookup P t (get f x) (get f i)).map (fun d => (d, [])) = (dlookup P t (get g x) (get g i)).map (fun d => (d, []))
      rw [h1, h2]
  all_goals first | rfl | (simp_all; done)

theorem mem_looks {x : Operand} {t : Tmp} (hx : x ∈ o.op.operands) (ht : x = .tmp t) : t ∈ looks ops o := by
  unfold looks
  refine List.mem_append_left _ (List.mem_filterMap.2 ⟨x, by simpa using hx, ?_⟩)
  rw [ht]
theorem stake_looks {t : Tmp} {i : Option Nat} (h : stake E o = some (t, i)) : t ∈ looks ops o := by
  obtain ⟨dst, op, ty, pos, after, guard⟩ := o
  unfold stake at h
  split at h
  · rename_i t' hop
    injection h with h
    injection h with h1 h2
    subst h1
    exact mem_looks (x := .tmp t') (by simp only at hop; subst hop; simp [Op.operands]) rfl
  · rename_i t' hop
    split at h
    · injection h with h
      injection h with h1 h2
      subst h1
      exact mem_looks (x := .tmp t') (by simp only at hop; subst hop; simp [Op.operands]) rfl
    · cases h
  · rename_i t' i' hop
    injection h with h
    injection h with h1 h2
    subst h1
    exact mem_looks (x := .tmp t') (by simp only at hop; subst hop; simp [Op.operands]) rfl
  · rename_i args ats hop
    split at h
    · rename_i t' ht'
      injection h with h
      injection h with h1 h2
      subst h1
      exact mem_looks (x := .tmp t') (by simp only at hop; subst hop; simp [Op.operands, Call.operands]; exact Array.mem_of_getElem? ht') rfl
    · cases h
  · rename_i a' b' t' hop
    split at h
    · injection h with h
      injection h with h1 h2
      subst h1
      exact mem_looks (x := .tmp t') (by simp only at hop; subst hop; simp [Op.operands]) rfl
    · cases h
  · rename_i a' b' t' hop
    injection h with h
    injection h with h1 h2
    subst h1
    exact mem_looks (x := .tmp t') (by simp only at hop; subst hop; simp [Op.operands]) rfl
  · rename_i a' t' hop
    injection h with h
    injection h with h1 h2
    subst h1
    exact mem_looks (x := .tmp t') (by simp only at hop; subst hop; simp [Op.operands]) rfl
  · cases h
structure Agree (ops : List Oper) (E : List Tmp) (o : Oper) (s s' : St) : Prop where
  slot : ∀ t ∈ looks ops o, s.slot t = s'.slot t
  box : ∀ k, (allocKeys ops).contains k = false → (s.box k).map bxc = (s'.box k).map bxc
  brm : eatLoad E o = true → ∀ k, (allocKeys ops).contains k = false → s.box k = s'.box k
  room : s.taken (stake E o) = s'.taken (stake E o)
theorem Agree.get_ (h : Agree ops E o s s') : ∀ x ∈ o.op.operands, get s.slot x = get s'.slot x := fun x hx => get_congr fun t ht => h.slot t (mem_looks hx ht)
theorem wanted_congr (h : ∀ t ∈ looks ops o, s.slot t = s'.slot t) : dwanted ops s o = dwanted ops s' o := by
  unfold dwanted
  cases hgd : o.guard with
  | none => rfl
  | some gw =>
    obtain ⟨j, want⟩ := gw
    simp only
    cases ht : (ops[j]?).bind (·.dst) with
    | none => rfl
    | some t =>
      simp only
      rw [h t (by unfold looks; rw [hgd]; refine List.mem_append_right _ ?_; simp only [ht]; simp)]
theorem callArgs_congr (hg : ∀ x ∈ o.op.operands, get s.slot x = get s'.slot x) : callArgs o s.slot = callArgs o s'.slot := by
  obtain ⟨dst, op, ty, pos, after, guard⟩ := o
  cases op with
  | call c =>
    obtain ⟨callee, args, ats⟩ := c
    have ha : args.toList.map (get s.slot) = args.toList.map (get s'.slot) := map_get_congr fun x hx => hg x (by simp [Op.operands, Call.operands]; exact .inr (by simpa using hx))
    cases callee with
    | value f =>
      have hf : get s.slot f = get s'.slot f := hg f (by simp [Op.operands, Call.operands])
      simp only [callArgs, hf, ha]
    | _ => rfl
  | _ => rfl
theorem takes_eat (h : takes P E s.slot o = true) : eatLoad E o = true := by
  unfold takes at h
  unfold eatLoad
  cases hop : o.op with
  | load t a =>
    simp only [hop, Bool.and_eq_true] at h ⊢
    exact h.1.1
  | _ => rw [hop] at h; cases h
theorem dval_congr (h : Agree ops E o s s') : dval P call n E ops o s = dval P call n E ops o s' := by
  have hg := h.get_
  have ht : s.taken (stake E o) = s'.taken (stake E o) := h.room
  have hlo : loadsOwn (allocKeys ops) s.slot o = loadsOwn (allocKeys ops) s'.slot o := by
    unfold loadsOwn
    cases hop : o.op with
    | load t a => simp only [hg a (by rw [hop]; simp [Op.operands])]
    | _ => rfl
  have hta : takes P E s.slot o = takes P E s'.slot o := by
    unfold takes
    cases hop : o.op with
    | load t a => simp only [hg a (by rw [hop]; simp [Op.operands])]
    | _ => rfl
  have hpa : ptrArgs o s.slot = ptrArgs o s'.slot := by unfold ptrArgs; rw [callArgs_congr hg]
  have hv : loadsOwn (allocKeys ops) s.slot o = false → sval P call s.slot s.box (s.taken (stake E o)) o = sval P call s'.slot s'.box (s'.taken (stake E o)) o := fun hl => by
    rw [ht]
    refine sval_congr hg fun t a k g' off hop ha => h.box k ?_
    unfold loadsOwn at hl
    simp only [hop, ha] at hl
    exact hl
  have htv : loadsOwn (allocKeys ops) s.slot o = false → takes P E s.slot o = true → tval P o s = tval P o s' := fun hl htk => by
    unfold tval
    cases hop : o.op with
    | load t a =>
      have ha := hg a (by rw [hop]; simp [Op.operands])
      simp only
      rw [← ha]
      cases hga : get s.slot a with
      | ptr k g off =>
        have hb : s.box k = s'.box k := h.brm (takes_eat htk) k (by
          unfold loadsOwn at hl
          simp only [hop, hga] at hl
          exact hl)
        simp only [hb]
      | _ => rfl
    | _ => rfl
  have hv' : (∀ t a, o.op ≠ .load t a) → sval P call s.slot s.box (s.taken (stake E o)) o = sval P call s'.slot s'.box (s'.taken (stake E o)) o := fun hn => hv (by
    unfold loadsOwn
    cases hop : o.op with
    | load t a => exact absurd hop (hn t a)
    | _ => rfl)
  unfold dval
  rw [wanted_congr h.slot, ← hlo, ← hta, ← hpa]
  cases hop : o.op with
  | call c => simp only [hv' (fun t a e => by rw [hop] at e; cases e)]
  | load t a =>
    simp only
    cases hl : loadsOwn (allocKeys ops) s.slot o with
    | true => rfl
    | false =>
      cases htk : takes P E s.slot o with
      | true => simp only [htv hl htk, if_true]
      | false => simp only [hv hl, Bool.false_eq_true, if_false]
  | alloc _ => rfl
  | box _ _ => rfl
  | store _ _ _ => rfl
  | _ => simp only [hv' (fun t a e => by rw [hop] at e; cases e)]
theorem lval_tk {v : Lv} (hv : lval P call o s = some v) : v.tk = none ∨ v.tk = stake E o := by
  unfold lval at hv
  cases hop : o.op with
  | alloc t =>
    simp only [hop] at hv
    split at hv
    · split at hv
      · injection hv with hv; subst hv; exact .inl rfl
      · cases hv
    · cases hv
  | store t a x =>
    cases a with
    | tmp k =>
      simp only [hop] at hv
      split at hv
      · split at hv
        · split at hv
          · injection hv with hv
            subst hv
            cases x with
            | tmp t' => exact .inr (by simp [Lv.tk, given, stake, hop])
            | _ => exact .inl rfl
          · cases hv
        · cases hv
      · cases hv
    | _ => simp [hop] at hv
  | call c =>
    simp only [hop] at hv
    obtain ⟨x, hx, rfl⟩ := Option.map_eq_some_iff.1 hv
    exact .inl rfl
  | _ => simp [hop] at hv
theorem lval_congr {v : Lv} (hv : lval P call o s = some v) (ho : LocOp o v s.slot) (hs : ∀ t ∈ looks ops o, s.slot t = s'.slot t)
    (hr : s.taken (stake E o) = s'.taken (stake E o)) (hb : s.box v.key = s'.box v.key) :
    lval P call o s' = some v ∧ LocOp o v s'.slot := by
  rcases ho with ⟨t, hop, hd⟩ | ⟨t, x, hop, hd, hp⟩ | ⟨c, hop, hck, hp⟩
  rotate_left 2
  · have hca : callArgs o s.slot = callArgs o s'.slot := callArgs_congr fun x hx => get_congr fun t ht => hs t (mem_looks hx ht)
    have hpa : ptrArgs o s.slot = ptrArgs o s'.slot := by unfold ptrArgs; rw [hca]
    refine ⟨?_, .inr (.inr ⟨c, hop, hck, by unfold pOk at hp ⊢; rw [← hpa]; exact hp⟩)⟩
    unfold lval at hv ⊢
    simp only [hop] at hv ⊢
    obtain ⟨x, hx, hxv⟩ := Option.map_eq_some_iff.1 hv
    obtain ⟨g, hxa⟩ := ptrVal_key hx
    have hkey : v.key = x.1 := by rw [← hxv]; rfl
    have hx' : ptrVal call o s' = some x := by
      rw [← hx]
      unfold ptrVal
      rw [hca]
      cases hca' : callArgs o s'.slot with
      | none => rfl
      | some ga =>
        obtain ⟨g0, args⟩ := ga
        simp only
        have hpi : ptrIn args = some (x.1, g) := by
          unfold ptrArgs at hxa
          rw [hca, hca'] at hxa
          exact hxa
        rw [hpi]
        simp only
        rw [← hkey, hb]
    rw [hx']
    exact congrArg some hxv
  · refine ⟨?_, .inl ⟨t, hop, hd⟩⟩
    unfold lval at hv ⊢
    simp only [hop] at hv ⊢
    exact hv
  · have h1 : s.slot v.key = s'.slot v.key := hs v.key (mem_looks (x := .tmp v.key) (by rw [hop]; simp [Op.operands]) rfl)
    have h2 : get s.slot x = get s'.slot x := get_congr fun t' ht => hs t' (mem_looks (x := x) (by rw [hop]; simp [Op.operands]) ht)
    have h3 : oroom s.room x = oroom s'.room x := by
      cases x with
      | tmp t' =>
        have e : stake E o = some (t', none) := by simp [stake, hop]
        rw [e] at hr
        exact hr
      | _ => rfl
    refine ⟨?_, .inr (.inl ⟨t, x, hop, hd, by unfold ptrAt at hp ⊢; rw [← h1]; exact hp⟩)⟩
    unfold lval at hv ⊢
    simp only [hop] at hv ⊢
    rw [← h1, ← h2, ← h3, ← hb]
    exact hv
theorem clr_slot (s : St) (bt : Option (Nat × Nat)) : (s.clr bt).slot = s.slot := by unfold St.clr; split <;> rfl
theorem clr_ctr (s : St) (bt : Option (Nat × Nat)) : (s.clr bt).ctr = s.ctr := by unfold St.clr; split <;> rfl
theorem clr_bxc (s : St) (bt : Option (Nat × Nat)) (k : Nat) : ((s.clr bt).box k).map bxc = (s.box k).map bxc := by
  unfold St.clr
  split
  · rfl
  · rename_i k' off
    simp only [upd]
    by_cases h : k = k'
    · rw [if_pos h, h]
      cases s.box k' <;> rfl
    · rw [if_neg h]
theorem clr_box (s : St) {bt : Option (Nat × Nat)} {k : Nat} (h : ∀ off, bt ≠ some (k, off)) : (s.clr bt).box k = s.box k := by
  unfold St.clr
  split
  · rfl
  · rename_i k' off
    simp only [upd]
    by_cases hk : k = k'
    · subst hk; exact absurd rfl (h off)
    · rw [if_neg hk]
theorem eff_slot {tk : Option (Tmp × Option Nat)} {bt : Option (Nat × Nat)} {dst : Option Tmp} {d : D} {r : List Room} {t : Tmp} (h : dst ≠ some t) : (s.eff tk bt dst d r).slot t = s.slot t := by
  unfold St.eff
  have e1 : ((s.demote tk).clr bt).slot = s.slot := by rw [clr_slot]; exact demote_slot tk
  cases dst with
  | none => rw [show (((s.demote tk).clr bt).put none d r) = (s.demote tk).clr bt from rfl, e1]
  | some k =>
    simp only [St.put, upd]
    rw [if_neg (fun e => h (by rw [e])), e1]
theorem put_boxX {dst : Option Tmp} {d : D} {r : List Room} : (s.put dst d r).box = s.box := by cases dst <;> rfl
theorem put_ctr' {dst : Option Tmp} {d : D} {r : List Room} : (s.put dst d r).ctr = s.ctr := by cases dst <;> rfl
theorem eff_bxc {tk : Option (Tmp × Option Nat)} {bt : Option (Nat × Nat)} {dst : Option Tmp} {d : D} {r : List Room} (k : Nat) : ((s.eff tk bt dst d r).box k).map bxc = (s.box k).map bxc := by
  unfold St.eff
  rw [put_boxX, clr_bxc, demote_box]
theorem eff_box {tk : Option (Tmp × Option Nat)} {bt : Option (Nat × Nat)} {dst : Option Tmp} {d : D} {r : List Room} {k : Nat} (h : ∀ off, bt ≠ some (k, off)) : (s.eff tk bt dst d r).box k = s.box k := by
  unfold St.eff
  rw [put_boxX, clr_box _ h, demote_box]
def StkOk (a b : Option (Tmp × Option Nat)) : Prop := ∀ t i i', a = some (t, i) → b = some (t, i') → ∃ p q, i = some p ∧ i' = some q ∧ p ≠ q
theorem StkOk.symm {a b : Option (Tmp × Option Nat)} (h : StkOk a b) : StkOk b a := fun t i i' h1 h2 => by
  obtain ⟨p, q, e1, e2, hne⟩ := h t i' i h2 h1
  exact ⟨q, p, e2, e1, Ne.symm hne⟩
theorem stkNe_spec {a b : Option (Tmp × Option Nat)} (h : stkNe a b = true) : StkOk a b := by
  intro t i i' ha hb
  subst ha hb
  simp only [stkNe, bne_self_eq_false, Bool.false_or] at h
  cases i with
  | none => simp at h
  | some p =>
    cases i' with
    | none => simp at h
    | some q => exact ⟨p, q, rfl, rfl, by simpa using h⟩
theorem StkOk.sub {a b a' b' : Option (Tmp × Option Nat)} (h : StkOk a b) (h1 : a' = none ∨ a' = a) (h2 : b' = none ∨ b' = b) : StkOk a' b' := by
  rcases h1 with rfl | rfl
  · intro t i i' e; cases e
  · rcases h2 with rfl | rfl
    · intro t i i' _ e; cases e
    · exact h
theorem taken_demote {tk st : Option (Tmp × Option Nat)} (h : StkOk tk st) : (s.demote tk).taken st = s.taken st := by
  match tk, st, h with
  | none, _, _ => rfl
  | some (t, none), none, _ => rfl
  | some (t, some i), none, _ => rfl
  | some (t, i), some (t', i'), h =>
    by_cases ht : t = t'
    · subst ht
      obtain ⟨p, q, rfl, rfl, hne⟩ := h t i i' rfl rfl
      simp only [St.taken, St.demote, upd, if_true]
      rw [List.getElem?_set_ne hne]
    · cases i <;> cases i' <;> simp only [St.taken, St.demote, upd, if_neg (Ne.symm ht)]
theorem taken_put {st : Option (Tmp × Option Nat)} {dst : Option Tmp} {d : D} {r : List Room} (h : ∀ t i, st = some (t, i) → dst ≠ some t) : (s.put dst d r).taken st = s.taken st := by
  cases dst with
  | none => rfl
  | some k =>
    match st, h with
    | none, _ => rfl
    | some (t, none), h =>
      simp only [St.taken, St.put, upd]
      rw [if_neg (fun e => h t none rfl (by rw [e]))]
    | some (t, some i), h =>
      simp only [St.taken, St.put, upd]
      rw [if_neg (fun e => h t (some i) rfl (by rw [e]))]
theorem taken_clr {st : Option (Tmp × Option Nat)} {bt : Option (Nat × Nat)} : (s.clr bt).taken st = s.taken st := by
  unfold St.clr
  split <;> rfl
theorem eff_room {tk st : Option (Tmp × Option Nat)} {bt : Option (Nat × Nat)} {dst : Option Tmp} {d : D} {r : List Room} (h : ∀ t i, st = some (t, i) → dst ≠ some t) (h' : StkOk tk st) : (s.eff tk bt dst d r).taken st = s.taken st := by
  unfold St.eff
  rw [taken_put h, taken_clr, taken_demote h']
theorem upd_comm {α : Type} {f : Nat → α} {a b : Nat} {x y : α} (h : a ≠ b) : upd (upd f a x) b y = upd (upd f b y) a x := by
  funext j
  simp only [upd]
  by_cases h1 : j = b
  · rw [if_pos h1, if_neg (fun e => h (by rw [← e, h1])), if_pos h1]
  · rw [if_neg h1, if_neg h1]
theorem demote_put {tk : Option (Tmp × Option Nat)} {dst : Option Tmp} {d : D} {r : List Room} (h : ∀ t i, tk = some (t, i) → dst ≠ some t) : (s.put dst d r).demote tk = (s.demote tk).put dst d r := by
  cases dst with
  | none => rfl
  | some k =>
    match tk, h with
    | none, _ => rfl
    | some (t, none), h =>
      have hne : k ≠ t := fun e => h t none rfl (by rw [e])
      simp only [St.put, St.demote]
      rw [upd_comm hne]
    | some (t, some i), h =>
      have hne : k ≠ t := fun e => h t (some i) rfl (by rw [e])
      simp only [St.put, St.demote]
      rw [upd_comm hne]
      simp only [upd, if_neg (Ne.symm hne)]
theorem demote_demote {tk tk' : Option (Tmp × Option Nat)} (h : StkOk tk tk') : (s.demote tk).demote tk' = (s.demote tk').demote tk := by
  match tk, tk', h with
  | none, _, _ => rfl
  | some (t, i), none, _ => rfl
  | some (t, i), some (t', i'), h =>
    by_cases hne : t = t'
    · subst hne
      obtain ⟨p, q, rfl, rfl, hpq⟩ := h t i i' rfl rfl
      simp only [St.demote]
      congr 1
      funext j
      simp only [upd]
      by_cases hj : j = t
      · subst hj
        simp only [if_true]
        exact List.set_comm _ _ hpq
      · simp only [if_neg hj]
    · cases i <;> cases i' <;> simp only [St.demote] <;> rw [upd_comm hne] <;> simp only [upd, if_neg hne, if_neg (Ne.symm hne)]
theorem put_put {a b : Option Tmp} {d d' : D} {r r' : List Room} (h : ∀ t, a = some t → b ≠ some t) : (s.put a d r).put b d' r' = (s.put b d' r').put a d r := by
  cases a with
  | none => rfl
  | some x =>
    cases b with
    | none => rfl
    | some y =>
      have hne : x ≠ y := fun e => h x rfl (by rw [e])
      simp only [St.put]
      rw [upd_comm hne, upd_comm (f := s.room) hne]
theorem clr_put {bt : Option (Nat × Nat)} {a : Option Tmp} {d : D} {r : List Room} : (s.put a d r).clr bt = (s.clr bt).put a d r := by
  unfold St.clr
  cases a <;> (split <;> rfl)
theorem clr_demote {bt : Option (Nat × Nat)} {tk : Option (Tmp × Option Nat)} : (s.demote tk).clr bt = (s.clr bt).demote tk := by
  unfold St.clr St.demote
  split <;> (split <;> rfl)
theorem clr_clr {bt bt' : Option (Nat × Nat)} (h : bt = none ∨ bt' = none) : (s.clr bt).clr bt' = (s.clr bt').clr bt := by
  rcases h with rfl | rfl <;> rfl
theorem eff_eff {tk tk' : Option (Tmp × Option Nat)} {bt bt' : Option (Nat × Nat)} {a b : Option Tmp} {d d' : D} {r r' : List Room} (h1 : ∀ t i, tk' = some (t, i) → a ≠ some t) (h2 : ∀ t i, tk = some (t, i) → b ≠ some t)
    (h3 : StkOk tk tk') (h4 : ∀ t, a = some t → b ≠ some t) (h5 : bt = none ∨ bt' = none) : (s.eff tk bt a d r).eff tk' bt' b d' r' = (s.eff tk' bt' b d' r').eff tk bt a d r := by
  unfold St.eff
  rw [demote_put h1, clr_put, demote_put h2, clr_put, put_put h4, ← clr_demote, ← clr_demote, clr_clr h5, demote_demote h3]
theorem optNe_spec {a b : Option Tmp} (h : optNe a b = true) : ∀ t, a = some t → b ≠ some t := by
  intro t ha hb
  rw [ha, hb] at h
  simp [optNe] at h
theorem dval_tk {tk : Option (Tmp × Option Nat)} {bt : Option (Nat × Nat)} {d : D} {r : List Room} (h : dval P call n E ops o s = some (tk, bt, d, r)) : (tk = none ∨ tk = stake E o) ∧ (bt = none ∨ eatLoad E o = true) ∧ ∀ k off, bt = some (k, off) → (allocKeys ops).contains k = false := by
  have hm : ∀ {x : Option (D × List Room)}, (x.map fun x => (stake E o, (none : Option (Nat × Nat)), x.1, x.2)) = some (tk, bt, d, r) → (tk = none ∨ tk = stake E o) ∧ (bt = none ∨ eatLoad E o = true) ∧ ∀ k off, bt = some (k, off) → (allocKeys ops).contains k = false := by
    intro x hx
    obtain ⟨y, _, hy⟩ := Option.map_eq_some_iff.1 hx
    injection hy with hy1 hy2
    injection hy2 with hy2 _
    subst hy1 hy2
    exact ⟨.inr rfl, .inl rfl, fun k off h => by cases h⟩
  unfold dval at h
  split at h
  · split at h
    · cases h
    · injection h with h
      injection h with h1 h2
      injection h2 with h2 _
      subst h1 h2
      exact ⟨.inl rfl, .inl rfl, fun k off h => by cases h⟩
    · cases hop : o.op <;> simp only [hop] at h
      case alloc => cases h
      case box => cases h
      case store => cases h
      case call c =>
        split at h
        · cases h
        · exact hm h
      case load t a =>
        split at h
        · cases h
        · rename_i hlo
          split at h
          · rename_i htk
            obtain ⟨y, hy0, hy⟩ := Option.map_eq_some_iff.1 h
            injection hy with hy1 hy2
            injection hy2 with hy2 _
            subst hy1 hy2
            refine ⟨.inl rfl, .inr (takes_eat htk), fun k off hk => ?_⟩
            injection hk with hk
            unfold tval at hy0
            simp only [hop] at hy0
            split at hy0
            · rename_i k' g off' hga
              split at hy0
              · split at hy0
                · split at hy0
                  · injection hy0 with hy0
                    subst hy0
                    injection hk with hk _
                    subst hk
                    unfold loadsOwn at hlo
                    simp only [hop, hga] at hlo
                    simpa using hlo
                  · cases hy0
                · cases hy0
              · cases hy0
            · cases hy0
          · exact hm h
      all_goals exact hm h
  · cases h
theorem app_slot (v : Lv) {t : Tmp} (h : t ≠ v.key) (h' : ∀ k b dst d r, v = .called k b dst d r → dst ≠ some t) : (v.app s).slot t = s.slot t := by
  cases v with
  | called k b dst d r =>
    have hd := h' k b dst d r rfl
    simp only [Lv.app]
    cases dst with
    | none => rfl
    | some t' => simp only [St.put, upd, St.setBox]; rw [if_neg (fun e => hd (by rw [e]))]
  | made k z q => simp only [Lv.app, locA, St.put, upd]; rw [if_neg (show ¬ t = k from h)]; rfl
  | put k b tk => simp only [Lv.app, St.setBox]; rw [demote_slot]
theorem app_box (v : Lv) {k : Nat} (h : k ≠ v.key) : (v.app s).box k = s.box k := by
  cases v with
  | made k' z q => simp only [Lv.app, locA, St.put, St.setBox, upd]; rw [if_neg (show ¬ k = k' from h)]
  | put k' b tk => simp only [Lv.app, St.setBox, upd]; rw [if_neg (show ¬ k = k' from h), demote_box]
  | called k' b dst d r =>
    simp only [Lv.app]
    rw [put_boxX]
    simp only [St.setBox, upd]
    rw [if_neg (show ¬ k = k' from h)]
theorem app_room (v : Lv) {st : Option (Tmp × Option Nat)} (h : ∀ k z q, v = .made k z q → ∀ i, st ≠ some (k, i)) (h' : StkOk v.tk st) (h2 : ∀ k b dst d r, v = .called k b dst d r → ∀ t i, st = some (t, i) → dst ≠ some t) : (v.app s).taken st = s.taken st := by
  cases v with
  | called k b dst d r =>
    show ((s.setBox k (some b)).put dst d r).taken st = _
    rw [taken_put (h2 k b dst d r rfl)]
    match st with
    | none => rfl
    | some (t, none) => rfl
    | some (t, some i) => rfl
  | made k z q =>
    show (({ s.setBox k (some ⟨s.ctr k, z, q⟩) with ctr := upd s.ctr k (s.ctr k + 1) } : St).put (some k) (.ptr k (s.ctr k) 0) []).taken st = _
    rw [taken_put (fun t i e he => by injection he with he; subst he; exact h _ z q rfl i e)]
    match st with
    | none => rfl
    | some (t, none) => rfl
    | some (t, some i) => rfl
  | put k b tk =>
    have e : ((Lv.put k b tk).app s).taken st = (s.demote tk).taken st := by
      match st with
      | none => rfl
      | some (t, none) => rfl
      | some (t, some i) => rfl
    rw [e]
    exact taken_demote h'
theorem app_put_slot {k : Nat} {b : Bx} {tk : Option (Tmp × Option Nat)} {t : Tmp} : ((Lv.put k b tk).app s).slot t = s.slot t := by simp only [Lv.app, St.setBox]; rw [demote_slot]
theorem setBox_put {k : Nat} {b : Option Bx} {a : Option Tmp} {d : D} {r : List Room} : (s.put a d r).setBox k b = (s.setBox k b).put a d r := by cases a <;> rfl
theorem setBox_demote {k : Nat} {b : Option Bx} {tk : Option (Tmp × Option Nat)} : (s.demote tk).setBox k b = (s.setBox k b).demote tk := by unfold St.demote; split <;> rfl
theorem setBox_clr {k : Nat} {b : Option Bx} {bt : Option (Nat × Nat)} (h : ∀ off, bt ≠ some (k, off)) : (s.clr bt).setBox k b = (s.setBox k b).clr bt := by
  unfold St.clr
  split
  · rfl
  · rename_i k' off
    have hne : k' ≠ k := fun e => h off (by rw [e])
    simp only [St.setBox]
    rw [upd_comm hne]
    simp only [upd, if_neg hne]
theorem eff_app {tk : Option (Tmp × Option Nat)} {bt : Option (Nat × Nat)} {a : Option Tmp} {d : D} {r : List Room} {v : Lv} (h1 : ∀ k z q, v = .made k z q → a ≠ some k) (h2 : ∀ k z q t i, v = .made k z q → tk = some (t, i) → t ≠ k)
    (h3 : ∀ off, bt ≠ some (v.key, off)) (h4 : ∀ t i, v.tk = some (t, i) → a ≠ some t) (h5 : StkOk v.tk tk) (h6 : ∀ k b dst d r, v = .called k b dst d r → (∀ t, a = some t → dst ≠ some t) ∧ ∀ t i, tk = some (t, i) → dst ≠ some t) :
    v.app (s.eff tk bt a d r) = (v.app s).eff tk bt a d r := by
  have ec : (s.eff tk bt a d r).ctr = s.ctr := by
    unfold St.eff
    rw [put_ctr', clr_ctr, demote_ctr]
  cases v with
  | called k b dst d' r' =>
    obtain ⟨h61, h62⟩ := h6 k b dst d' r' rfl
    have h3' : ∀ off, bt ≠ some (k, off) := h3
    show ((s.eff tk bt a d r).setBox k (some b)).put dst d' r' = ((s.setBox k (some b)).put dst d' r').eff tk bt a d r
    unfold St.eff
    rw [setBox_put, setBox_clr h3', setBox_demote, demote_put h62, clr_put, put_put h61]
  | put k b tkv =>
    show ((s.eff tk bt a d r).demote tkv).setBox k (some b) = ((s.demote tkv).setBox k (some b)).eff tk bt a d r
    unfold St.eff
    have h4' : ∀ t i, tkv = some (t, i) → a ≠ some t := h4
    have h3' : ∀ off, bt ≠ some (k, off) := h3
    rw [demote_put h4', setBox_put, ← clr_demote, setBox_clr h3', setBox_demote, setBox_demote, setBox_demote, demote_demote (show StkOk tk tkv from StkOk.symm h5)]
  | made k z q =>
    have ha := h1 k z q rfl
    have ht := fun t i => h2 k z q t i rfl
    have e2 : ∀ s0 : St, locA k z q s0 = ({ s0.setBox k (some ⟨s0.ctr k, z, q⟩) with ctr := upd s0.ctr k (s0.ctr k + 1) } : St).put (some k) (.ptr k (s0.ctr k) 0) [] := fun _ => rfl
    show locA k z q (s.eff tk bt a d r) = (locA k z q s).eff tk bt a d r
    rw [e2, e2, ec]
    have ectr : ∀ (s0 : St) (c : Nat → Nat), (({ s0 with ctr := c } : St).demote tk).clr bt = { (s0.demote tk).clr bt with ctr := c } := fun s0 c => by
      unfold St.clr St.demote
      split <;> (split <;> rfl)
    have e3 : ({ (s.eff tk bt a d r).setBox k (some ⟨s.ctr k, z, q⟩) with ctr := upd s.ctr k (s.ctr k + 1) } : St) = ({ s.setBox k (some ⟨s.ctr k, z, q⟩) with ctr := upd s.ctr k (s.ctr k + 1) } : St).eff tk bt a d r := by
      unfold St.eff
      have h3' : ∀ off, bt ≠ some (k, off) := h3
      rw [setBox_put, setBox_clr h3', setBox_demote, ectr (s.setBox k (some ⟨s.ctr k, z, q⟩)) (upd s.ctr k (s.ctr k + 1))]
      cases a <;> rfl
    rw [e3]
    generalize ({ s.setBox k (some ⟨s.ctr k, z, q⟩) with ctr := upd s.ctr k (s.ctr k + 1) } : St) = s1
    unfold St.eff
    rw [demote_put (s := s1) (fun t i h e => by injection e with e; exact ht t i h e.symm), clr_put, put_put (s := (s1.demote tk).clr bt) (fun t h e => by injection e with e; subst e; exact ha h)]
theorem setBox_setBox {k k' : Nat} {b b' : Option Bx} (h : k ≠ k') : (s.setBox k b).setBox k' b' = (s.setBox k' b').setBox k b := by
  simp only [St.setBox]
  rw [upd_comm h]
theorem lkey_of {v : Lv} (hk : (allocKeys ops).contains v.key = true) (ho : LocOp o v s.slot) : lkey (allocKeys ops) o = some v.key := by
  rcases ho with ⟨t, hop, hd⟩ | ⟨t, x, hop, _, _⟩ | ⟨c, hop, hck, _⟩
  · simp only [lkey, hop, hd]
  · simp only [lkey, hop]
    rw [if_pos hk]
  · simp only [lkey, hop, hck]
theorem locA_put {k k' : Nat} {z : List D} {q : List Room} {b : Option Bx} {tk : Option (Tmp × Option Nat)} (h : k ≠ k') (ht : ∀ i, tk ≠ some (k, i)) : locA k z q ((s.demote tk).setBox k' b) = ((locA k z q s).demote tk).setBox k' b := by
  have hc : ((s.demote tk).setBox k' b).ctr = s.ctr := demote_ctr tk
  unfold locA
  rw [hc, demote_put (fun t i e e' => by injection e' with e'; subst e'; exact ht i e), setBox_put]
  congr 1
  unfold St.demote
  split <;> (simp only [St.setBox]; rw [upd_comm (Ne.symm h)])
theorem app_app {v v' : Lv} (hne : v.key ≠ v'.key) (ht : StkOk v.tk v'.tk) (h1 : ∀ k z q, v = .made k z q → ∀ i, v'.tk ≠ some (k, i)) (h2 : ∀ k z q, v' = .made k z q → ∀ i, v.tk ≠ some (k, i))
    (h3 : ∀ k b dst d r, v = .called k b dst d r → (∀ t i, v'.tk = some (t, i) → dst ≠ some t) ∧ (∀ k z q, v' = .made k z q → dst ≠ some k) ∧ ∀ k' b' dst' d' r', v' = .called k' b' dst' d' r' → ∀ t, dst = some t → dst' ≠ some t)
    (h4 : ∀ k b dst d r, v' = .called k b dst d r → (∀ t i, v.tk = some (t, i) → dst ≠ some t) ∧ ∀ k z q, v = .made k z q → dst ≠ some k) : v.app (v'.app s) = v'.app (v.app s) := by
  have madeCalled : ∀ {k k' : Nat} {z : List D} {q : List Room} {b : Bx} {dst : Option Tmp} {d : D} {r : List Room}, k ≠ k' → dst ≠ some k → locA k z q ((s.setBox k' (some b)).put dst d r) = ((locA k z q s).setBox k' (some b)).put dst d r := by
    intro k k' z q b dst d r hne hd
    have hc : ((s.setBox k' (some b)).put dst d r).ctr = s.ctr := by rw [put_ctr']; rfl
    unfold locA
    rw [hc]
    cases dst with
    | none =>
      simp only [St.put, St.setBox]
      rw [upd_comm (f := s.box) (Ne.symm hne)]
    | some t =>
      have ht : t ≠ k := fun e => hd (by rw [e])
      simp only [St.put, St.setBox]
      rw [upd_comm (f := s.box) (Ne.symm hne), upd_comm (f := s.slot) ht, upd_comm (f := s.room) ht]
  have putCalled : ∀ {k k' : Nat} {b' : Bx} {tk : Option (Tmp × Option Nat)} {b : Bx} {dst : Option Tmp} {d : D} {r : List Room}, k ≠ k' → (∀ t i, tk = some (t, i) → dst ≠ some t) → (((s.setBox k' (some b)).put dst d r).demote tk).setBox k (some b') = (((s.demote tk).setBox k (some b')).setBox k' (some b)).put dst d r := by
    intro k k' b' tk b dst d r hne hd
    rw [demote_put hd, setBox_put, ← setBox_demote, setBox_setBox hne.symm]
  cases v with
  | called k b dst d r =>
    obtain ⟨p1, p2, p3⟩ := h3 k b dst d r rfl
    cases v' with
    | put k' b' tk' => exact (putCalled (Ne.symm hne) p1).symm
    | made k' z q => exact (madeCalled (Ne.symm hne) (p2 k' z q rfl)).symm
    | called k' b' dst' d' r' =>
      have hne' : k ≠ k' := hne
      show (((s.setBox k' (some b')).put dst' d' r').setBox k (some b)).put dst d r = (((s.setBox k (some b)).put dst d r).setBox k' (some b')).put dst' d' r'
      rw [setBox_put, setBox_put, setBox_setBox hne'.symm, put_put (fun t h h' => p3 k' b' dst' d' r' rfl t h' h)]
  | put k b tk =>
    cases v' with
    | called k' b' dst d r => exact putCalled hne (h4 k' b' dst d r rfl).1
    | put k' b' tk' =>
      show (((s.demote tk').setBox k' (some b')).demote tk).setBox k (some b) = (((s.demote tk).setBox k (some b)).demote tk').setBox k' (some b')
      rw [setBox_demote, setBox_demote, setBox_demote, setBox_demote, setBox_demote, setBox_demote, setBox_setBox (show k' ≠ k from Ne.symm hne), demote_demote (show StkOk tk' tk from ht.symm)]
    | made k' z q => exact (locA_put (Ne.symm hne) (h2 k' z q rfl)).symm
  | made k z q =>
    cases v' with
    | called k' b' dst d r => exact madeCalled hne ((h4 k' b' dst d r rfl).2 k z q rfl)
    | put k' b' tk' => exact locA_put hne (h1 k z q rfl)
    | made k' z' q' =>
      have hne : k ≠ k' := hne
      show locA k z q (locA k' z' q' s) = locA k' z' q' (locA k z q s)
      unfold locA
      simp only [St.put, St.setBox]
      have e1 : upd s.ctr k' (s.ctr k' + 1) k = s.ctr k := by unfold upd; rw [if_neg hne]
      have e2 : upd s.ctr k (s.ctr k + 1) k' = s.ctr k' := by unfold upd; rw [if_neg (Ne.symm hne)]
      rw [e1, e2, upd_comm (f := s.slot) (Ne.symm hne), upd_comm (f := s.room) (Ne.symm hne), upd_comm (f := s.box) (Ne.symm hne), upd_comm (f := s.ctr) (Ne.symm hne)]
theorem stepD_comm {x y : Oper} {s1 s2 : St} (hi : indep E ops x y = true) (h1 : stepD P call n E ops x s = some s1) (h2 : stepD P call n E ops y s1 = some s2) : ∃ s1', stepD P call n E ops y s = some s1' ∧ stepD P call n E ops x s1' = some s2 := by
  simp only [indep, Bool.and_eq_true] at hi
  obtain ⟨⟨⟨⟨⟨i1, i2⟩, i3⟩, i4⟩, i5⟩, i6⟩ := hi
  have j1 : ∀ t ∈ looks ops y, x.dst ≠ some t := by
    intro t ht hd
    rw [hd] at i1
    simp at i1
    exact i1 ht
  have j2 : ∀ t ∈ looks ops x, y.dst ≠ some t := by
    intro t ht hd
    rw [hd] at i2
    simp at i2
    exact i2 ht
  have j3 := optNe_spec i3
  have j4 : StkOk (stake E x) (stake E y) := stkNe_spec i4
  have j6 : eatLoad E x = true → eatLoad E y = true → False := fun hx hy => by rw [hx, hy] at i6; cases i6
  have tkOf : ∀ {tk st : Option (Tmp × Option Nat)}, tk = none ∨ tk = st → ∀ t i, tk = some (t, i) → st = some (t, i) := fun h t i h' => by
    rcases h with h | h
    · rw [h] at h'; cases h'
    · rw [← h]; exact h'
  have plainLocal : ∀ {x y : Oper} {v : Lv} {tk : Option (Tmp × Option Nat)} {bt : Option (Nat × Nat)} {d : D} {r : List Room} {s : St}, (∀ t ∈ looks ops y, x.dst ≠ some t) → (∀ t ∈ looks ops x, y.dst ≠ some t) → (∀ t, x.dst = some t → y.dst ≠ some t) → StkOk (stake E x) (stake E y) →
      ((tk = none ∨ tk = stake E x) ∧ (bt = none ∨ eatLoad E x = true) ∧ ∀ k off, bt = some (k, off) → (allocKeys ops).contains k = false) → (allocKeys ops).contains v.key = true → (∀ k z q, v = .made k z q → y.dst = some k) → (∀ k b dst d r, v = .called k b dst d r → y.dst = dst) → (v.tk = none ∨ v.tk = stake E y) →
      v.app (s.eff tk bt x.dst d r) = (v.app s).eff tk bt x.dst d r := by
    intro x y v tk bt d r s j1 j2 j3 j4 htk hk hdst hcd hvt
    have k1 := tkOf htk.1
    have k2 := tkOf hvt
    exact eff_app (fun k z q e h => j3 k h (hdst k z q e)) (fun k z q t i e h h' => j2 t (stake_looks (k1 t i h)) (by rw [hdst k z q e, h'])) (fun off h => by have := htk.2.2 _ _ h; rw [hk] at this; cases this) (fun t i h h' => j1 t (stake_looks (k2 t i h)) h') (j4.sub htk.1 hvt).symm (fun k b dst d r e => ⟨fun t h => by rw [← hcd k b dst d r e]; exact j3 t h, fun t i h => by rw [← hcd k b dst d r e]; exact j2 t (stake_looks (k1 t i h))⟩)
  have madeDst : ∀ {y : Oper} {v : Lv} {s : St}, lval P call y s = some v → LocOp y v s.slot → ∀ k z q, v = .made k z q → y.dst = some k := by
    intro y v s hv ho k z q e
    rcases ho with ⟨t, _, hd⟩ | ⟨t, x', hop, _, _⟩ | ⟨c, hop, _, _⟩
    rotate_left 2
    · subst e
      unfold lval at hv
      simp only [hop] at hv
      obtain ⟨x', _, hx⟩ := Option.map_eq_some_iff.1 hv
      cases hx
    · rw [hd, e]; rfl
    · subst e
      unfold lval at hv
      simp only [hop] at hv
      split at hv
      · split at hv
        · split at hv
          · cases hv
          · cases hv
        · cases hv
      · cases hv
  have calledDst : ∀ {y : Oper} {v : Lv} {s : St}, lval P call y s = some v → ∀ k b dst d r, v = .called k b dst d r → y.dst = dst := by
    intro y v s hv k b dst d r e
    subst e
    unfold lval at hv
    cases hop : y.op with
    | alloc t =>
      simp only [hop] at hv
      split at hv
      · split at hv <;> cases hv
      · cases hv
    | store t a x =>
      cases a with
      | tmp k =>
        simp only [hop] at hv
        split at hv
        · split at hv
          · split at hv <;> cases hv
          · cases hv
        · cases hv
      | _ => simp [hop] at hv
    | call c =>
      simp only [hop] at hv
      obtain ⟨x', _, hx⟩ := Option.map_eq_some_iff.1 hv
      injection hx
    | _ => simp [hop] at hv
  have appSlot : ∀ {x y : Oper} {v : Lv} {s : St}, (∀ t ∈ looks ops x, y.dst ≠ some t) → (∀ k z q, v = .made k z q → y.dst = some k) → (∀ k b dst d r, v = .called k b dst d r → y.dst = dst) → ∀ t ∈ looks ops x, (v.app s).slot t = s.slot t := by
    intro x y v s j2 hdst hcd t ht
    cases hvv : v with
    | called k b dst d r =>
      have e := hcd k b dst d r hvv
      show ((s.setBox k (some b)).put dst d r).slot t = _
      have h2 := j2 t ht
      rw [e] at h2
      cases dst with
      | none => rfl
      | some t' => simp only [St.put, upd, St.setBox]; rw [if_neg (fun e => h2 (by rw [e]))]
    | put k b tk => exact app_put_slot
    | made k z q => exact app_slot (.made k z q) (fun e => j2 t ht (by rw [hdst k z q hvv, e]; rfl)) (fun _ _ _ _ _ e => by cases e)
  have appRoom : ∀ {x y : Oper} {v : Lv} {s : St}, (∀ t ∈ looks ops x, y.dst ≠ some t) → (∀ k z q, v = .made k z q → y.dst = some k) → (∀ k b dst d r, v = .called k b dst d r → y.dst = dst) → (v.tk = none ∨ v.tk = stake E y) → StkOk (stake E x) (stake E y) → (v.app s).taken (stake E x) = s.taken (stake E x) := by
    intro x y v s j2 hdst hcd hvt j4
    exact app_room v (fun k z q e i h => j2 k (stake_looks h) (hdst k z q e)) (j4.sub (.inr rfl) hvt).symm (fun k b dst d r e t i h => by rw [← hcd k b dst d r e]; exact j2 t (stake_looks h))
  cases hlx : isLocal (allocKeys ops) x with
  | false =>
    rw [stepD_val hlx] at h1
    obtain ⟨⟨tk, bt, d, r⟩, hv1, rfl⟩ := Option.map_eq_some_iff.1 h1
    have T1 := dval_tk hv1
    have k1 := tkOf T1.1
    cases hly : isLocal (allocKeys ops) y with
    | false =>
      rw [stepD_val hly] at h2
      obtain ⟨⟨tk', bt', d', r'⟩, hv2, rfl⟩ := Option.map_eq_some_iff.1 h2
      have T2 := dval_tk hv2
      have k2 := tkOf T2.1
      have A1 : Agree ops E y (s.eff tk bt x.dst d r) s := ⟨fun t ht => eff_slot (j1 t ht), fun k _ => eff_bxc k, fun he k _ => eff_box (fun off h => by
        rcases T1.2.1 with h' | h'
        · rw [h'] at h; cases h
        · exact j6 h' he), eff_room (fun t i hst => j1 t (stake_looks hst)) (j4.sub T1.1 (.inr rfl))⟩
      simp only at hv2
      rw [dval_congr A1] at hv2
      have A2 : Agree ops E x (s.eff tk' bt' y.dst d' r') s := ⟨fun t ht => eff_slot (j2 t ht), fun k _ => eff_bxc k, fun he k _ => eff_box (fun off h => by
        rcases T2.2.1 with h' | h'
        · rw [h'] at h; cases h
        · exact j6 he h'), eff_room (fun t i hst => j2 t (stake_looks hst)) (j4.sub (.inr rfl) T2.1).symm⟩
      refine ⟨s.eff tk' bt' y.dst d' r', by rw [stepD_val hly, hv2]; rfl, ?_⟩
      rw [stepD_val hlx, dval_congr A2, hv1]
      simp only [Option.map_some]
      rw [eff_eff (fun t i h => j2 t (stake_looks (k1 t i h))) (fun t i h => j1 t (stake_looks (k2 t i h))) (j4.sub T1.1 T2.1).symm (fun t h h' => j3 t h' h) (by
        rcases T1.2.1 with h | h
        · exact .inr h
        · rcases T2.2.1 with h' | h'
          · exact .inl h'
          · exact (j6 h h').elim)]
    | true =>
      obtain ⟨v, hv2, rfl, hk, hin, hw, ho⟩ := stepD_local hly h2
      have hslots : ∀ t ∈ looks ops y, (s.eff tk bt x.dst d r).slot t = s.slot t := fun t ht => eff_slot (j1 t ht)
      have hrooms : (s.eff tk bt x.dst d r).taken (stake E y) = s.taken (stake E y) := eff_room (fun t i hst => j1 t (stake_looks hst)) (j4.sub T1.1 (.inr rfl))
      obtain ⟨hv2', ho'⟩ := lval_congr (E := E) hv2 ho hslots hrooms (eff_box fun off h => by have := T1.2.2 _ _ h; rw [hk] at this; cases this)
      have hw' : dwanted ops s y = some true := by
        rw [← hw]
        exact (wanted_congr hslots).symm
      refine ⟨v.app s, stepD_of_local hv2' hk hin hw' ho', ?_⟩
      have hdst := madeDst hv2' ho'
      have hcd := calledDst hv2'
      have hvt := lval_tk (E := E) hv2'
      have A2 : Agree ops E x (v.app s) s := ⟨appSlot j2 hdst hcd, fun k hk' => by rw [app_box v fun e => by rw [e, hk] at hk'; cases hk'], fun _ k hk' => app_box v (fun e => by rw [e, hk] at hk'; cases hk'), appRoom j2 hdst hcd hvt j4⟩
      rw [stepD_val hlx, dval_congr A2, hv1]
      simp only [Option.map_some]
      rw [plainLocal j1 j2 j3 j4 T1 hk hdst hcd hvt]
  | true =>
    obtain ⟨v, hv1, rfl, hk, hin, hw, ho⟩ := stepD_local hlx h1
    have hdst := madeDst hv1 ho
    have hcd := calledDst hv1
    have hvt := lval_tk (E := E) hv1
    cases hly : isLocal (allocKeys ops) y with
    | true =>
      have i5' : optNe (lkey (allocKeys ops) x) (lkey (allocKeys ops) y) = true := by simpa [hlx, hly] using i5
      obtain ⟨v2, hv2, rfl, hk2, hin2, hw2, ho2⟩ := stepD_local hly h2
      have e1 := lkey_of hk ho
      have e2 := lkey_of hk2 ho2
      have hne : v.key ≠ v2.key := fun e => optNe_spec i5' v.key e1 (by rw [e2, e])
      have hdst2 := madeDst hv2 ho2
      have hcd2 := calledDst hv2
      have hvt2 := lval_tk (E := E) hv2
      have hslots : ∀ t ∈ looks ops y, (v.app s).slot t = s.slot t := appSlot j1 hdst hcd
      obtain ⟨hv2', ho2'⟩ := lval_congr (E := E) hv2 ho2 hslots (appRoom j1 hdst hcd hvt j4.symm) (app_box v (Ne.symm hne))
      have hw2' : dwanted ops s y = some true := by
        rw [← hw2]
        exact (wanted_congr hslots).symm
      refine ⟨v2.app s, stepD_of_local hv2' hk2 hin2 hw2' ho2', ?_⟩
      have hslots2 : ∀ t ∈ looks ops x, s.slot t = (v2.app s).slot t := fun t ht => (appSlot j2 hdst2 hcd2 t ht).symm
      obtain ⟨hv1', ho1'⟩ := lval_congr (E := E) (s' := v2.app s) hv1 ho hslots2 (appRoom j2 hdst2 hcd2 hvt2 j4).symm (app_box v2 hne).symm
      have hw' : dwanted ops (v2.app s) x = some true := by
        rw [← hw]
        exact (wanted_congr hslots2).symm
      rw [stepD_of_local hv1' hk hin hw' ho1']
      rw [app_app hne (j4.sub hvt hvt2) (fun k z q e i h => j1 k (stake_looks (tkOf hvt2 k i h)) (hdst k z q e)) (fun k z q e i h => j2 k (stake_looks (tkOf hvt k i h)) (hdst2 k z q e)) (fun k b dst d r e => ⟨fun t i h => by rw [← hcd k b dst d r e]; exact j1 t (stake_looks (tkOf hvt2 t i h)), fun k' z q e' => by rw [← hcd k b dst d r e]; exact fun h => j3 k' h (hdst2 k' z q e'), fun k' b' dst' d' r' e' t h => by rw [← hcd2 k' b' dst' d' r' e']; exact j3 t (by rw [hcd k b dst d r e]; exact h)⟩) (fun k b dst d r e => ⟨fun t i h => by rw [← hcd2 k b dst d r e]; exact j2 t (stake_looks (tkOf hvt t i h)), fun k' z q e' => by rw [← hcd2 k b dst d r e]; exact fun h => j3 k' (hdst k' z q e') h⟩)]
    | false =>
      have j4' : StkOk (stake E y) (stake E x) := j4.symm
      have j3' : ∀ t, y.dst = some t → x.dst ≠ some t := fun t h h' => j3 t h' h
      rw [stepD_val hly] at h2
      obtain ⟨⟨tk, bt, d, r⟩, hv2, rfl⟩ := Option.map_eq_some_iff.1 h2
      have T2 := dval_tk hv2
      have k2 := tkOf T2.1
      have A1 : Agree ops E y (v.app s) s := ⟨appSlot j1 hdst hcd, fun k hk' => by rw [app_box v fun e => by rw [e, hk] at hk'; cases hk'], fun _ k hk' => app_box v (fun e => by rw [e, hk] at hk'; cases hk'), appRoom j1 hdst hcd hvt j4'⟩
      rw [dval_congr A1] at hv2
      refine ⟨s.eff tk bt y.dst d r, by rw [stepD_val hly, hv2]; rfl, ?_⟩
      have hslots : ∀ t ∈ looks ops x, s.slot t = (s.eff tk bt y.dst d r).slot t := fun t ht => (eff_slot (j2 t ht)).symm
      have hrooms : s.taken (stake E x) = (s.eff tk bt y.dst d r).taken (stake E x) := (eff_room (fun t i hst => j2 t (stake_looks hst)) (j4.sub (.inr rfl) T2.1).symm).symm
      obtain ⟨hv1', ho'⟩ := lval_congr (E := E) (s' := s.eff tk bt y.dst d r) hv1 ho hslots hrooms (eff_box fun off h => by have := T2.2.2 _ _ h; rw [hk] at this; cases this).symm
      have hw' : dwanted ops (s.eff tk bt y.dst d r) x = some true := by
        rw [← hw]
        exact (wanted_congr hslots).symm
      rw [stepD_of_local hv1' hk hin hw' ho']
      rw [plainLocal j2 j1 j3' j4' T2 hk hdst hcd hvt]
theorem stepX_step (h : stepX P call n E ops o s = some s') : step P call n E ops o s = some s' := by
  unfold stepX at h
  split at h
  · exact h
  · exact stepD_step h
def runI (P : Program) (call : Call) (n : Nat) (E : List Tmp) (ops : List Oper) : List Nat → St → Option St
  | [], s => some s
  | i :: r, s => match ops[i]? with
    | none => none
    | some o => (stepX P call n E ops o s).bind (runI P call n E ops r)
theorem runI_append (l1 l2 : List Nat) (s : St) : runI P call n E ops (l1 ++ l2) s = (runI P call n E ops l1 s).bind (runI P call n E ops l2) := by
  induction l1 generalizing s with
  | nil => rfl
  | cons i l1 ih =>
    simp only [List.cons_append, runI]
    cases ops[i]? with
    | none => rfl
    | some o =>
      simp only
      cases stepX P call n E ops o s with
      | none => rfl
      | some s1 => exact ih s1
theorem runI_first {j : Nat} {oj : Oper} (hj : ops[j]? = some oj) : ∀ (l1 : List Nat) (s sf : St), (∀ i ∈ l1, ∀ oi, ops[i]? = some oi → indep E ops oi oj = true ∧ isBar ops oi = false ∧ isBar ops oj = false) → runI P call n E ops (l1 ++ [j]) s = some sf →
    ∃ s1, stepX P call n E ops oj s = some s1 ∧ runI P call n E ops l1 s1 = some sf
  | [], s, sf, _, h => by
    simp only [List.nil_append, runI, hj] at h
    obtain ⟨s1, h1, h2⟩ := Option.bind_eq_some_iff.1 h
    have h2 : some s1 = some sf := h2
    injection h2 with h2
    subst h2
    exact ⟨s1, h1, rfl⟩
  | i :: l1, s, sf, hi, h => by
    simp only [List.cons_append, runI] at h
    cases ho : ops[i]? with
    | none => rw [ho] at h; cases h
    | some oi =>
      rw [ho] at h
      obtain ⟨s1, h1, h2⟩ := Option.bind_eq_some_iff.1 h
      obtain ⟨s2, h3, h4⟩ := runI_first hj l1 s1 sf (fun k hk => hi k (by simp [hk])) h2
      obtain ⟨q1, q2, q3⟩ := hi i (by simp) oi ho
      have e1 : ∀ t, stepX P call n E ops oi t = stepD P call n E ops oi t := fun t => by unfold stepX; rw [q2]; rfl
      have e2 : ∀ t, stepX P call n E ops oj t = stepD P call n E ops oj t := fun t => by unfold stepX; rw [q3]; rfl
      rw [e1] at h1
      rw [e2] at h3
      obtain ⟨s1', h5, h6⟩ := stepD_comm q1 h1 h3
      refine ⟨s1', by rw [e2]; exact h5, ?_⟩
      simp only [runI, ho]
      rw [e1, h6]
      exact h4
theorem runD_range : ∀ (k m : Nat) (s : St), k + m ≤ ops.length → runD P call n E ops ((ops.drop k).take m) s = runI P call n E ops (List.range' k m) s
  | k, 0, s, _ => by simp [runD, runI]
  | k, m + 1, s, hl => by
    have hk : k < ops.length := by omega
    have e : ops.drop k = ops[k] :: ops.drop (k + 1) := List.drop_eq_getElem_cons hk
    rw [e, List.take_succ_cons, List.range'_succ]
    simp only [runD, runI, List.getElem?_eq_getElem hk]
    congr 1
    funext s1
    exact runD_range (k + 1) m s1 (by omega)
end

section
variable {P : Program} {n : Nat} {S0 : Gv} {F0 : Nat → Nat → Prop} {w0 : World} {call : Call} {E : List Tmp}

theorem max_mem : ∀ {l : List Nat}, l ≠ [] → ∃ x ∈ l, ∀ y ∈ l, y ≤ x
  | [], h => absurd rfl h
  | [x], _ => ⟨x, by simp, by simp⟩
  | x :: y :: l, _ => by
    obtain ⟨z, h1, h2⟩ := max_mem (l := y :: l) (by simp)
    by_cases h : z ≤ x
    · exact ⟨x, by simp, fun u hu => by
        rcases List.mem_cons.1 hu with rfl | hu
        · exact Nat.le_refl _
        · exact Nat.le_trans (h2 u hu) h⟩
    · exact ⟨z, List.mem_cons_of_mem _ h1, fun u hu => by
        rcases List.mem_cons.1 hu with rfl | hu
        · omega
        · exact h2 u hu⟩
structure BarOK (ops : Array Oper) (b : Nat) : Prop where
  before : ∀ i, i < b → ∃ j oj, i < j ∧ j ≤ b ∧ ops[j]? = some oj ∧ edge oj i = true
  behind : ∀ l, b < l → ∀ ol, ops[l]? = some ol → ∃ m, b ≤ m ∧ m < l ∧ edge ol m = true
def Closed (ops : Array Oper) (rem : List Nat) : Prop := ∀ j, j ∉ rem → ∀ oj, ops[j]? = some oj → ∀ i, edge oj i = true → i ∉ rem
theorem bar_done {ops : Array Oper} {rem : List Nat} {b : Nat} (hb : BarOK ops b) (hC : Closed ops rem) : ∀ (l : Nat) (ol : Oper), b < l → ops[l]? = some ol → (∀ i, edge ol i = true → i ∉ rem) → b ∉ rem := by
  intro l
  induction l using Nat.strongRecOn with
  | ind l ih =>
    intro ol hl hol hd
    obtain ⟨m, h1, h2, h3⟩ := hb.behind l hl ol hol
    have hm := hd m h3
    by_cases e : m = b
    · rw [← e]; exact hm
    · cases hom : ops[m]? with
      | none =>
        have h4 := (Array.getElem?_eq_some_iff.1 hol).1
        rw [Array.getElem?_eq_none_iff] at hom
        omega
      | some om => exact ih m h2 om (by omega) hom (hC m hm om hom)
theorem bar_before {ops : Array Oper} {rem : List Nat} {b : Nat} (hb : BarOK ops b) (hC : Closed ops rem) {ob : Oper} (hob : ops[b]? = some ob) (hd : ∀ i, edge ob i = true → i ∉ rem) : ∀ i, i < b → i ∉ rem := by
  intro i hi hm
  obtain ⟨x, hx, hmax⟩ := max_mem (l := rem.filter fun j => decide (j < b)) (by
    intro h0
    have : i ∈ rem.filter fun j => decide (j < b) := by simp [hm, hi]
    rw [h0] at this
    cases this)
  simp only [List.mem_filter, decide_eq_true_eq] at hx
  obtain ⟨j, oj, h1, h2, h3, h4⟩ := hb.before x hx.2
  by_cases e : j = b
  · subst e
    rw [hob] at h3
    injection h3 with h3
    subst h3
    exact hd x h4 hx.1
  · have hj : j ∉ rem := fun hj => by
      have := hmax j (by simp [hj]; omega)
      omega
    exact hC j hj oj h3 x h4 hx.1
theorem any_sound (hP : Fine P) (hcall : CallOK P call) {ops : Array Oper} {Q : Exit → Act → World → Prop} {sf : St}
    (hedge : ∀ j oj, ops[j]? = some oj → (∀ e ∈ oj.after, Region.binds .any e = true → e.on < j) ∧ ∀ i, i < j → ∀ oi, ops[i]? = some oi → edge oj i = true ∨ (indep E ops.toList oi oj = true ∧ isBar ops.toList oi = false ∧ isBar ops.toList oj = false) ∨ ∃ b, i ≤ b ∧ b ≤ j ∧ BarOK ops b)
    (hQ : ∀ a' w', Rep P n S0 F0 w0 sf a' w' → Q .normal a' w') :
    ∀ (m : Nat) (rem : List Nat) (listed : Array Bool) (s : St) (a : Act) (w : World) (fuel : Nat), rem.length = m → rem.length ≤ fuel → rem.Pairwise (· < ·) → (∀ j ∈ rem, j < ops.size) → listed.size = ops.size →
      Closed ops rem → (∀ j, j < ops.size → (listed.getD j true = false ↔ j ∈ rem)) → Rep P n S0 F0 w0 s a w → runI P call n E ops.toList rem s = some sf → wpAny P .any ops Q fuel listed a w := by
  intro m
  induction m with
  | zero =>
    intro rem listed s a w fuel hm hfuel _ _ hls _ hL hR hrun
    have hrem : rem = [] := List.length_eq_zero_iff.1 hm
    subst hrem
    simp only [runI] at hrun
    injection hrun with hrun
    subst hrun
    refine wpAny_done ?_ (hQ a w hR) fuel
    cases hr : Region.ready .any ops listed with
    | nil => rfl
    | cons x xs =>
      have hx : x ∈ Region.ready .any ops listed := by rw [hr]; simp
      obtain ⟨h1, o, h2, _⟩ := mem_ready.1 hx
      have hlt : x < ops.size := (Array.getElem?_eq_some_iff.1 h2).1
      have := (hL x hlt).1 h1
      cases this
  | succ m ih =>
    intro rem listed s a w fuel hm hfuel hsorted hlt hls hC hL hR hrun
    obtain ⟨f', rfl⟩ : ∃ f', fuel = f' + 1 := ⟨fuel - 1, by omega⟩
    obtain ⟨i0, r0, hrem0⟩ : ∃ i0 r0, rem = i0 :: r0 := by
      cases rem with
      | nil => simp at hm
      | cons x xs => exact ⟨x, xs, rfl⟩
    have listedOf : ∀ j, j < ops.size → j ∉ rem → listed.getD j false = true := by
      intro j hjs hn
      cases hb : listed.getD j true with
      | false => exact absurd ((hL j hjs).1 hb) hn
      | true =>
        have : j < listed.size := by omega
        simp [this] at hb ⊢
        exact hb
    have hi0 : i0 ∈ Region.ready .any ops listed := by
      have h2 : i0 < ops.size := hlt i0 (by rw [hrem0]; simp)
      rw [mem_ready]
      refine ⟨(hL i0 h2).2 (by rw [hrem0]; simp), ops[i0], Array.getElem?_eq_getElem h2, fun e he hb => ?_⟩
      have h3 := (hedge i0 _ (Array.getElem?_eq_getElem h2)).1 e he hb
      refine listedOf e.on (by omega) fun hmem => ?_
      rw [hrem0] at hmem hsorted
      rcases List.mem_cons.1 hmem with h | h
      · omega
      · have := (List.pairwise_cons.1 hsorted).1 _ h
        omega
    refine ⟨fun h0 => (by rw [h0] at hi0; cases hi0), fun j hj => ?_⟩
    obtain ⟨hjl, oj, hoj, hjed⟩ := mem_ready.1 hj
    have hjs : j < ops.size := (Array.getElem?_eq_some_iff.1 hoj).1
    have hjrem : j ∈ rem := (hL j hjs).1 hjl
    have hdone : ∀ i, edge oj i = true → i ∉ rem := by
      intro i h hmem
      unfold edge at h
      obtain ⟨e, he, hb⟩ := Array.any_eq_true'.1 h
      simp only [Bool.and_eq_true, beq_iff_eq] at hb
      have h3 := hjed e he hb.1
      rw [hb.2] at h3
      have hik := hlt i hmem
      have h4 := (hL i hik).2 hmem
      have : i < listed.size := by omega
      simp [this] at h3 h4
      rw [h3] at h4
      cases h4
    obtain ⟨l1, l2, hsplit⟩ := List.append_of_mem hjrem
    have hsub : ∀ i ∈ l1, ∀ oi, ops.toList[i]? = some oi → indep E ops.toList oi oj = true ∧ isBar ops.toList oi = false ∧ isBar ops.toList oj = false := by
      intro i hi oi hoi
      have hil : i < j := by
        rw [hsplit, List.pairwise_append] at hsorted
        exact hsorted.2.2 i hi j (by simp)
      have hirem : i ∈ rem := by rw [hsplit]; simp [hi]
      rw [Array.getElem?_toList] at hoi
      rcases (hedge j oj hoj).2 i hil oi hoi with h | h | ⟨b, hb1, hb2, hb⟩
      · exact absurd hirem (hdone i h)
      · exact h
      · exfalso
        by_cases e : b = j
        · subst e
          exact bar_before hb hC hoj hdone i hil hirem
        · have hbn := bar_done hb hC j oj (by omega) hoj hdone
          by_cases e2 : i = b
          · rw [e2] at hirem
            exact hbn hirem
          · cases hob : ops[b]? with
            | none =>
              rw [Array.getElem?_eq_none_iff] at hob
              omega
            | some ob => exact bar_before hb hC hob (hC b hbn ob hob) i (by omega) hirem
    have hrun' : runI P call n E ops.toList ((l1 ++ [j]) ++ l2) s = some sf := by rw [List.append_assoc]; simpa [hsplit] using hrun
    rw [runI_append] at hrun'
    obtain ⟨s1, h1, h2⟩ := Option.bind_eq_some_iff.1 hrun'
    obtain ⟨s2, h3, h4⟩ := runI_first (by rw [Array.getElem?_toList]; exact hoj) l1 s s1 hsub h1
    have hrest : runI P call n E ops.toList (l1 ++ l2) s2 = some sf := by rw [runI_append, h4]; exact h2
    have hlen : (l1 ++ l2).length = m := by
      rw [hsplit] at hm
      simp at hm ⊢
      omega
    have hin : ∀ x, x ∈ l1 ++ l2 → x ∈ rem := by
      intro x hx
      rw [hsplit]
      simp only [List.mem_append, List.mem_cons] at hx ⊢
      rcases hx with h | h
      · exact .inl h
      · exact .inr (.inr h)
    unfold wpOp
    simp only [hoj]
    have hnext : ∀ a' w', Rep P n S0 F0 w0 s2 a' w' → wpAny P .any ops Q f' (listed.setIfInBounds j true) a' w' := by
      intro a' w' hR'
      refine ih (l1 ++ l2) (listed.setIfInBounds j true) s2 a' w' f' hlen (by omega) ?_ ?_ (by simp [hls]) ?_ ?_ hR' hrest
      · rw [hsplit, List.pairwise_append, List.pairwise_cons] at hsorted
        rw [List.pairwise_append]
        exact ⟨hsorted.1, hsorted.2.1.2, fun x hx y hy => hsorted.2.2 x hx y (by simp [hy])⟩
      · exact fun x hx => hlt x (hin x hx)
      · intro x hxn ox hox i hi hmem
        by_cases hxj : x = j
        · subst hxj
          rw [hoj] at hox
          injection hox with hox
          subst hox
          exact hdone i hi (hin i hmem)
        · refine hC x (fun hm => ?_) ox hox i hi (hin i hmem)
          rw [hsplit] at hm
          simp only [List.mem_append, List.mem_cons] at hm hxn
          rcases hm with h | h | h
          · exact hxn (.inl h)
          · exact hxj h
          · exact hxn (.inr h)
      · intro x hx
        have hnotin : j ∉ l1 ++ l2 := by
          rw [hsplit, List.pairwise_append, List.pairwise_cons] at hsorted
          intro h
          rcases List.mem_append.1 h with h | h
          · have := hsorted.2.2 j h j (by simp)
            omega
          · have := hsorted.2.1.1 j h
            omega
        by_cases hxj : j = x
        · subst hxj
          have : j < listed.size := by omega
          simp [this]
          simpa using hnotin
        · rw [getD_set_ne true hxj, hL x hx, hsplit]
          simp only [List.mem_append, List.mem_cons]
          constructor
          · rintro (h | h | h)
            · exact .inl h
            · exact absurd h.symm hxj
            · exact .inr h
          · rintro (h | h)
            · exact .inl h
            · exact .inr (.inr h)
    have := step_sound (Q := Q) hP hcall hR (stepX_step h3) (K := wpAny P .any ops Q f' (listed.setIfInBounds j true)) hnext
    split at this
    · rename_i hw; rw [if_pos hw]; exact .inl this
    · rename_i hw; rw [if_neg hw]; exact this
theorem range_all {m : Nat} {p : Nat → Bool} (h : (List.range m).all p = true) : ∀ j, j < m → p j = true := fun j hj => List.all_eq_true.1 h j (List.mem_range.2 hj)
theorem barAt_spec {ops : Array Oper} {b : Nat} (h : barAt ops.toList b = true) : BarOK ops b := by
  unfold barAt at h
  split at h
  · rename_i ob hob
    simp only [Bool.and_eq_true] at h
    obtain ⟨⟨_, h1⟩, h2⟩ := h
    rw [Array.getElem?_toList] at hob
    refine ⟨fun i hi => ?_, fun l hl ol hol => ?_⟩
    · have := range_all h1 i hi
      simp only [Bool.or_eq_true, List.any_eq_true, List.mem_range, Bool.and_eq_true, decide_eq_true_eq] at this
      rcases this with h | ⟨j, hj, hij, h⟩
      · exact ⟨b, ob, hi, Nat.le_refl _, hob, h⟩
      · rw [Array.getElem?_toList] at h
        cases ho : ops[j]? with
        | none => rw [ho] at h; cases h
        | some oj => rw [ho] at h; exact ⟨j, oj, hij, by omega, ho, h⟩
    · have hls : l < ops.toList.length := by simpa using (Array.getElem?_eq_some_iff.1 hol).1
      have := range_all h2 l hls
      simp only [Array.getElem?_toList, hol, Bool.or_eq_true, List.any_eq_true, List.mem_range, Bool.and_eq_true, decide_eq_true_eq] at this
      rcases this with h | ⟨m, h1, h2, h3⟩
      · omega
      · exact ⟨m, h2, h1, h3⟩
  · cases h
theorem drawOk_spec {ops : Array Oper} (h : drawOk E ops.toList = true) : ∀ j oj, ops[j]? = some oj → (∀ e ∈ oj.after, Region.binds .any e = true → e.on < j) ∧ ∀ i, i < j → ∀ oi, ops[i]? = some oi → edge oj i = true ∨ (indep E ops.toList oi oj = true ∧ isBar ops.toList oi = false ∧ isBar ops.toList oj = false) ∨ ∃ b, i ≤ b ∧ b ≤ j ∧ BarOK ops b := by
  intro j oj hoj
  have hjs : j < ops.toList.length := by simpa using (Array.getElem?_eq_some_iff.1 hoj).1
  have h1 := range_all h j hjs
  simp only [Array.getElem?_toList, hoj, Bool.and_eq_true] at h1
  obtain ⟨⟨_, h2⟩, h3⟩ := h1
  refine ⟨fun e he hb => ?_, fun i hi oi hoi => ?_⟩
  · have := Array.all_eq_true_iff_forall_mem.1 h2 e he
    simpa [hb] using this
  · have := range_all h3 i hi
    simp only [Array.getElem?_toList, hoi, Bool.or_eq_true, Bool.and_eq_true, Bool.not_eq_true', List.any_eq_true, List.mem_range, decide_eq_true_eq] at this
    rcases this with (h | ⟨⟨h, h'⟩, h''⟩) | ⟨b, _, ⟨h1, h2⟩, h3⟩
    · exact .inl h
    · exact .inr (.inl ⟨h, h', h''⟩)
    · exact .inr (.inr ⟨b, h1, h2, barAt_spec h3⟩)
theorem draw_sound (hP : Fine P) (hcall : CallOK P call) : DrawOK P call := by
  intro n S0 F0 w0 E id ops s s' a w Q hR h hQ
  refine wp_region_any hP.mixed ?_
  have hR' : Rep P n S0 F0 w0 s a { w with drawn := w.drawn + 1 } := hR.drew
  unfold runDraw at h
  split at h
  · rename_i hc
    have hlen : ops.toList.length = ops.size := by simp
    have hr0 := runD_range (P := P) (call := call) (n := n) (E := E) (ops := ops.toList) 0 ops.toList.length s (by simp)
    rw [List.drop_zero, List.take_length, h, hlen] at hr0
    refine any_sound hP hcall (drawOk_spec hc) hQ ops.size (List.range' 0 ops.size) _ s a _ ops.size (by simp) (by simp) List.pairwise_lt_range' (fun j hj => ?_) (by simp) (fun j hj oj hoj => ?_) (fun j hj => ?_) hR' hr0.symm
    · simp [List.mem_range'] at hj
      exact hj
    · have := (Array.getElem?_eq_some_iff.1 hoj).1
      exact absurd (by simp [List.mem_range']; omega) hj
    · simp [hj, List.mem_range']
  · cases h
end
theorem aev_sound {P : Program} {ext : Call} (hP : Fine P) (hext : CallOK P ext) (N : Nat) : CallOK P (aev P ext N) := sound hP (fun _ h => draw_sound hP h) hext N
end Go.Av
namespace Go.Av
open Go.RowKit
variable [Gs]

def Le (c c' : Call) : Prop := ∀ f a b r, c f a b = some r → c' f a b = some r
section
variable {P : Program} {ext c c' : Call} {n : Nat} {E : List Tmp}
theorem Le.refl (c : Call) : Le c c := fun _ _ _ _ h => h
theorem plainR_some {r : Option (D × List Room × List Bx)} {x : D × List Room} (h : plainR r = some x) : ∃ y, r = some y := by
  cases r with
  | none => cases h
  | some y => exact ⟨y, rfl⟩
theorem sval_mono (hc : Le c c') {slot : Nat → D} {box : Nat → Option Bx} {rm : List Room} {o : Oper} {x : D × List Room} (h : sval P c slot box rm o = some x) : sval P c' slot box rm o = some x := by
  obtain ⟨dst, op, ty, pos, after, guard⟩ := o
  cases op with
  | call cc =>
    obtain ⟨callee, args, ats⟩ := cc
    cases callee with
    | builtin b => cases b <;> exact h
    | invoke r m => exact h
    | value f =>
      simp only [sval] at h ⊢
      split at h
      · split at h
        · rename_i hp
          rw [if_pos hp]
          obtain ⟨y, hy⟩ := plainR_some h
          rw [hc _ _ _ _ hy, ← hy]
          exact h
        · cases h
      · cases h
  | lookup _ _ _ b => cases b <;> exact h
  | _ => exact h
theorem stepS_mono (hc : Le c c') {o : Oper} {s s' : St} (h : stepS P c E o s = some s') : stepS P c' E o s = some s' := by
  unfold stepS at h ⊢
  split at h
  · rename_i d r hv
    rw [sval_mono hc hv]
    exact h
  · cases h
def ptrParts (o : Oper) (s : St) : Option (FuncId × Nat × Nat × List D × Bx) :=
  (callArgs o s.slot).bind fun x => (ptrIn x.2).bind fun y => (s.box y.1).bind fun bx => if bx.gen = y.2 ∧ x.2.all argOk = true then some (x.1, y.1, y.2, x.2.map (ren y.1 y.2), ⟨0, bx.cells, bx.rooms⟩) else none
def ptrEnd (o : Oper) (s : St) (k gn : Nat) : Option (D × List Room × List Bx) → Option St
  | some (d, r, [b']) => some ((s.setBox k (some ⟨gn, b'.cells, b'.rooms⟩)).put o.dst d r)
  | _ => none
theorem stepPtr_parts {o : Oper} {s : St} : stepPtr c o s = (ptrParts o s).bind fun x => ptrEnd o s x.2.1 x.2.2.1 (c x.1 x.2.2.2.1 [x.2.2.2.2]) := by
  unfold stepPtr ptrParts
  cases callArgs o s.slot with
  | none => rfl
  | some x =>
    obtain ⟨g, args⟩ := x
    simp only [Option.bind_some]
    cases ptrIn args with
    | none => rfl
    | some y =>
      obtain ⟨k, gn⟩ := y
      simp only [Option.bind_some]
      cases s.box k with
      | none => rfl
      | some bx =>
        simp only [Option.bind_some]
        split
        · simp only [Option.bind_some]
          unfold ptrEnd
          rfl
        · rfl
theorem ptrEnd_some {o : Oper} {s s' : St} {k gn : Nat} {r : Option (D × List Room × List Bx)} (h : ptrEnd o s k gn r = some s') : ∃ y, r = some y := by
  cases r with
  | none => simp [ptrEnd] at h
  | some y => exact ⟨y, rfl⟩
theorem stepPtr_mono (hc : Le c c') {o : Oper} {s s' : St} (h : stepPtr c o s = some s') : stepPtr c' o s = some s' := by
  rw [stepPtr_parts] at h ⊢
  obtain ⟨x, hx, h⟩ := Option.bind_eq_some_iff.1 h
  rw [hx]
  obtain ⟨y, hy⟩ := ptrEnd_some h
  simp only [Option.bind_some]
  rw [hc _ _ _ _ hy, ← hy]
  exact h
def stepC (P : Program) (c : Call) (E : List Tmp) (o : Oper) (s : St) : Option St := (stepS P c E o s).orElse fun _ => stepNew c o s
theorem newR_some {o : Oper} {s s' : St} {r : Option (D × List Room × List Bx)} (h : newR o s r = some s') : ∃ y, r = some y ∧ plainR (some y) = none := by
  match r, h with
  | some (.ptr k g i, m, [b]), h => exact ⟨_, rfl, rfl⟩
theorem stepNew_parts {o : Oper} {s s' : St} (h : stepNew c o s = some s') : ∃ g l y, c g l [] = some y ∧ ∀ c' : Call, c' g l [] = some y → stepNew c' o s = some s' ∧ stepS P c' E o s = none := by
  obtain ⟨dst, op, ty, pos, after, guard⟩ := o
  cases op with
  | call cc =>
    obtain ⟨callee, args, ats⟩ := cc
    cases callee with
    | value f =>
      simp only [stepNew] at h
      split at h
      · rename_i g first captured hf
        split at h
        · rename_i hp
          obtain ⟨y, hy, hpl⟩ := newR_some h
          refine ⟨g, _, y, hy, fun c' hc' => ⟨?_, ?_⟩⟩
          · simp only [stepNew, hf, if_pos hp, hc']
            rw [← hy]
            exact h
          · simp only [stepS, sval, hf, if_pos hp, hc', hpl]
        · cases h
      · cases h
    | _ => simp [stepNew] at h
  | _ => simp [stepNew] at h
theorem stepC_mono (hc : Le c c') {o : Oper} {s s' : St} (h : stepC P c E o s = some s') : stepC P c' E o s = some s' := by
  unfold stepC at h ⊢
  cases hs : stepS P c E o s with
  | some s1 =>
    rw [hs] at h
    rw [stepS_mono hc hs]
    exact h
  | none =>
    rw [hs] at h
    obtain ⟨g, l, y, hy, hall⟩ := stepNew_parts (P := P) (E := E) (c := c) h
    obtain ⟨h1, h2⟩ := hall c' (hc _ _ _ _ hy)
    rw [h2]
    exact h1
theorem step_mono (hc : Le c c') {ops : List Oper} {o : Oper} {s s' : St} (h : step P c n E ops o s = some s') : step P c' n E ops o s = some s' := by
  unfold step at h ⊢
  split at h
  · rename_i hin
    rw [if_pos hin]
    cases hw : dwanted ops s o with
    | none => rw [hw] at h; cases h
    | some b =>
      rw [hw] at h
      cases b with
      | false => exact h
      | true =>
        simp only at h ⊢
        cases hop : o.op with
        | call cc =>
          simp only [hop] at h ⊢
          split at h
          · rename_i hp; rw [if_pos hp]; exact stepPtr_mono hc h
          · rename_i hp; rw [if_neg hp]; exact stepC_mono hc h
        | alloc _ => simpa [hop] using h
        | box _ _ => simpa [hop] using h
        | store _ _ _ => simpa [hop] using h
        | _ =>
          simp only [hop] at h ⊢
          split at h
          · rename_i hp; rw [if_pos hp]; exact h
          · rename_i hp; rw [if_neg hp]; exact stepS_mono hc h
  · cases h
theorem stepD_mono (hc : Le c c') {ops : List Oper} {o : Oper} {s s' : St} (h : stepD P c n E ops o s = some s') : stepD P c' n E ops o s = some s' := by
  unfold stepD at h ⊢
  split at h
  · rename_i hin
    rw [if_pos hin]
    cases hw : dwanted ops s o with
    | none => rw [hw] at h; cases h
    | some b =>
      rw [hw] at h
      cases b with
      | false => exact h
      | true =>
        simp only at h ⊢
        cases hop : o.op with
        | call cc =>
          simp only [hop] at h ⊢
          split at h
          · rename_i hk
            rw [if_pos hk]
            split at h
            · rename_i hp; rw [if_pos hp]; exact stepPtr_mono hc h
            · cases h
          · rename_i hk
            rw [if_neg hk]
            split at h
            · cases h
            · rename_i hp; rw [if_neg hp]; exact stepS_mono hc h
        | alloc _ => simpa [hop] using h
        | box _ _ => simp [hop] at h
        | store _ a _ =>
          cases a with
          | tmp k => simpa [hop] using h
          | _ => simp [hop] at h
        | load _ _ =>
          simp only [hop] at h ⊢
          split at h
          · cases h
          · rename_i hl
            rw [if_neg hl]
            split at h
            · rename_i hp; rw [if_pos hp]; exact h
            · rename_i hp; rw [if_neg hp]; exact stepS_mono hc h
        | _ => simp only [hop] at h ⊢; exact stepS_mono hc h
  · cases h
theorem runOps_mono (hc : Le c c') {ops : List Oper} : ∀ {l : List Oper} {s s' : St}, runOps P c n E ops l s = some s' → runOps P c' n E ops l s = some s'
  | [], _, _, h => h
  | o :: l, s, s', h => by
    simp only [runOps] at h ⊢
    obtain ⟨s1, h1, h2⟩ := Option.bind_eq_some_iff.1 h
    split at h1
    · rename_i hr
      rw [if_pos hr, h1]
      exact runOps_mono hc h2
    · rename_i hr
      rw [if_neg hr, step_mono hc h1]
      exact runOps_mono hc h2
theorem runD_mono (hc : Le c c') {ops : List Oper} : ∀ {l : List Oper} {s s' : St}, runD P c n E ops l s = some s' → runD P c' n E ops l s = some s'
  | [], _, _, h => h
  | o :: l, s, s', h => by
    simp only [runD] at h ⊢
    obtain ⟨s1, h1, h2⟩ := Option.bind_eq_some_iff.1 h
    have h1' : stepX P c' n E ops o s = some s1 := by
      unfold stepX at h1 ⊢
      split at h1
      · rename_i hb; rw [if_pos hb]; exact step_mono hc h1
      · rename_i hb; rw [if_neg hb]; exact stepD_mono hc h1
    rw [h1']
    exact runD_mono hc h2
theorem runDraw_mono (hc : Le c c') {ops : List Oper} {s s' : St} (h : runDraw P c n E ops s = some s') : runDraw P c' n E ops s = some s' := by
  unfold runDraw at h ⊢
  split at h
  · rename_i hd
    rw [if_pos hd]
    exact runD_mono hc h
  · cases h
theorem aloop_mono {f g : St → Option (X × St)} (hfg : ∀ s r, f s = some r → g s = some r) : ∀ {m m' : Nat} {s : St} {r : X × St}, m ≤ m' → aloop f m s = some r → aloop g m' s = some r
  | 0, _, _, _, _, h => by simp [aloop] at h
  | m + 1, 0, _, _, hm, _ => absurd hm (by omega)
  | m + 1, m' + 1, s, r, hm, h => by
    simp only [aloop] at h ⊢
    cases hf : f s with
    | none => rw [hf] at h; cases h
    | some y =>
      rw [hfg s y hf]
      rw [hf] at h
      obtain ⟨x, s1⟩ := y
      cases x with
      | normal => exact aloop_mono hfg (by omega) h
      | exit id => exact h
      | ret => exact h
theorem acode_mono (hc : Le c c') {N N' : Nat} (hN : N ≤ N') {res : List Tmp} : ∀ {k : Code} {s : St} {r : X × St}, acode P c N n res k s = some r → acode P c' N' n res k s = some r := by
  intro k
  induction k with
  | skip => intro s r h; exact h
  | region id ops draw =>
    intro s r h
    simp only [acode] at h ⊢
    obtain ⟨s1, h1, h2⟩ := Option.map_eq_some_iff.1 h
    cases draw with
    | true =>
      simp only [if_true] at h1 ⊢
      rw [runDraw_mono hc h1]
      exact congrArg some h2
    | false =>
      simp only [Bool.false_eq_true, if_false] at h1 ⊢
      rw [runOps_mono hc h1]
      exact congrArg some h2
  | seq a b iha ihb =>
    intro s r h
    simp only [acode] at h ⊢
    cases ha : acode P c N n res a s with
    | none => rw [ha] at h; cases h
    | some y =>
      rw [iha ha]
      rw [ha] at h
      obtain ⟨x, s1⟩ := y
      cases x with
      | normal => exact ihb h
      | exit id => exact h
      | ret => exact h
  | cond o a b iha ihb =>
    intro s r h
    simp only [acode] at h ⊢
    split at h
    · exact iha h
    · exact ihb h
    · cases h
  | block id b ih =>
    intro s r h
    simp only [acode] at h ⊢
    cases hb : acode P c N n res b s with
    | none => rw [hb] at h; cases h
    | some y =>
      rw [ih hb]
      rw [hb] at h
      exact h
  | loop b ih =>
    intro s r h
    simp only [acode] at h ⊢
    exact aloop_mono (fun s r h => ih h) hN h
  | exit id => intro s r h; exact h
  | ret => intro s r h; exact h
  | _ => intro s r h; simp [acode] at h
theorem aev_mono1 : ∀ N, Le (aev P ext N) (aev P ext (N + 1))
  | 0, _, _, _, _, h => by simp [aev] at h
  | N + 1, f, a, b, r, h => by
    unfold aev at h ⊢
    split at h
    · exact h
    split at h
    · cases h
    · rename_i fn hf
      split at h
      · cases h
      · rename_i k hk
        unfold leaving at h ⊢
        split at h
        · rename_i s hs
          rw [acode_mono (aev_mono1 N) (Nat.le_succ N) hs]
          exact h
        · rename_i s hs
          rw [acode_mono (aev_mono1 N) (Nat.le_succ N) hs]
          exact h
        · cases h
theorem aev_mono {N N' : Nat} (h : N ≤ N') : Le (aev P ext N) (aev P ext N') := by
  induction h with
  | refl => exact Le.refl _
  | step _ ih => exact fun f a b r h => aev_mono1 _ f a b r (ih f a b r h)
end

open Classical in
noncomputable def callL (P : Program) (ext : Call) : Call := fun f args pbs => if h : ∃ r N, aev P ext N f args pbs = some r then some h.choose else none
section
variable {P : Program} {ext : Call} {n : Nat} {E : List Tmp} {res : List Tmp}
theorem aev_callL {N : Nat} {f : FuncId} {args : List D} {pbs : List Bx} {r : D × List Room × List Bx} (h : aev P ext N f args pbs = some r) : callL P ext f args pbs = some r := by
  have h0 : ∃ r N, aev P ext N f args pbs = some r := ⟨r, N, h⟩
  unfold callL
  rw [dif_pos h0]
  obtain ⟨N', h'⟩ := h0.choose_spec
  have h1 := aev_mono (Nat.le_max_left N N') _ _ _ _ h
  have h2 := aev_mono (Nat.le_max_right N N') _ _ _ _ h'
  rw [h1] at h2
  exact h2.symm
theorem callL_aev {f : FuncId} {args : List D} {pbs : List Bx} {r : D × List Room × List Bx} (h : callL P ext f args pbs = some r) : ∃ N, aev P ext N f args pbs = some r := by
  unfold callL at h
  split at h
  · rename_i h0
    injection h with h
    obtain ⟨N, hN⟩ := h0.choose_spec
    exact ⟨N, by rw [hN, h]⟩
  · cases h
def Ev {α : Type} (f : Nat → Option α) (x : α) : Prop := ∃ N, ∀ N', N ≤ N' → f N' = some x
theorem Ev.const {α : Type} {f : Nat → Option α} {x : α} (h : ∀ N, f N = some x) : Ev f x := ⟨0, fun N _ => h N⟩
theorem Ev.bind {α β : Type} {f : Nat → Option α} {g : Nat → α → Option β} {x : α} {y : β} (hf : Ev f x) (hg : Ev (fun N => g N x) y) : Ev (fun N => (f N).bind (g N)) y := by
  obtain ⟨N1, h1⟩ := hf
  obtain ⟨N2, h2⟩ := hg
  exact ⟨max N1 N2, fun N hN => by simp only [h1 N (by omega), Option.bind_some]; exact h2 N (by omega)⟩
theorem callL_ev {f : FuncId} {args : List D} {pbs : List Bx} {r : D × List Room × List Bx} (h : callL P ext f args pbs = some r) : Ev (fun N => aev P ext N f args pbs) r := by
  obtain ⟨N, hN⟩ := callL_aev h
  exact ⟨N, fun N' h' => aev_mono h' _ _ _ _ hN⟩
theorem sval_ev {slot : Nat → D} {box : Nat → Option Bx} {rm : List Room} {o : Oper} {x : D × List Room} (h : sval P (callL P ext) slot box rm o = some x) : Ev (fun N => sval P (aev P ext N) slot box rm o) x := by
  obtain ⟨dst, op, ty, pos, after, guard⟩ := o
  cases op with
  | call cc =>
    obtain ⟨callee, args, ats⟩ := cc
    cases callee with
    | builtin b => cases b <;> exact .const fun _ => h
    | invoke r m => exact .const fun _ => h
    | value f =>
      simp only [sval] at h ⊢
      split at h
      · split at h
        · rename_i hp
          obtain ⟨y, hy⟩ := plainR_some h
          obtain ⟨N, hN⟩ := callL_ev hy
          exact ⟨N, fun N' h' => by have := hN N' h'; simp only at this; simp only [if_pos hp, this]; rw [← hy]; exact h⟩
        · cases h
      · cases h
  | lookup _ _ _ b => cases b <;> exact .const fun _ => h
  | _ => exact .const fun _ => h
theorem stepS_ev {o : Oper} {s s' : St} (h : stepS P (callL P ext) E o s = some s') : Ev (fun N => stepS P (aev P ext N) E o s) s' := by
  unfold stepS at h
  split at h
  · rename_i d r hv
    obtain ⟨N, hN⟩ := sval_ev hv
    exact ⟨N, fun N' h' => by have e := hN N' h'; simp only at e; show stepS _ _ _ _ _ = _; unfold stepS; rw [e]; exact h⟩
  · cases h
theorem stepC_ev {o : Oper} {s s' : St} (h : stepC P (callL P ext) E o s = some s') : Ev (fun N => stepC P (aev P ext N) E o s) s' := by
  unfold stepC at h
  cases hs : stepS P (callL P ext) E o s with
  | some s1 =>
    rw [hs] at h
    obtain ⟨N, hN⟩ := stepS_ev hs
    exact ⟨N, fun N' h' => by
      have e := hN N' h'
      simp only at e
      show stepC _ _ _ _ _ = _
      unfold stepC
      rw [e]
      exact h⟩
  | none =>
    rw [hs] at h
    obtain ⟨g, l, y, hy, hall⟩ := stepNew_parts (P := P) (E := E) (c := callL P ext) h
    obtain ⟨N, hN⟩ := callL_ev hy
    exact ⟨N, fun N' h' => by
      have e := hN N' h'
      simp only at e
      obtain ⟨h1, h2⟩ := hall (aev P ext N') e
      show stepC _ _ _ _ _ = _
      unfold stepC
      rw [h2]
      exact h1⟩
theorem stepPtr_ev {o : Oper} {s s' : St} (h : stepPtr (callL P ext) o s = some s') : Ev (fun N => stepPtr (aev P ext N) o s) s' := by
  rw [stepPtr_parts] at h
  obtain ⟨x, hx, h⟩ := Option.bind_eq_some_iff.1 h
  obtain ⟨y, hy⟩ := ptrEnd_some h
  obtain ⟨N, hN⟩ := callL_ev hy
  refine ⟨N, fun N' h' => ?_⟩
  show stepPtr (aev P ext N') o s = some s'
  rw [stepPtr_parts, hx]
  simp only [Option.bind_some]
  have := hN N' h'
  simp only at this
  rw [this, ← hy]
  exact h
theorem step_ev {ops : List Oper} {o : Oper} {s s' : St} (h : step P (callL P ext) n E ops o s = some s') : Ev (fun N => step P (aev P ext N) n E ops o s) s' := by
  unfold step at h ⊢
  split at h
  · rename_i hin
    simp only [if_pos hin]
    cases hw : dwanted ops s o with
    | none => rw [hw] at h; cases h
    | some b =>
      rw [hw] at h
      cases b with
      | false => exact .const fun _ => h
      | true =>
        simp only at h ⊢
        cases hop : o.op with
        | call cc =>
          simp only [hop] at h ⊢
          split at h
          · rename_i hp; simp only [hp, if_true]; exact stepPtr_ev h
          · rename_i hp; simp only [hp, if_false]; exact stepC_ev h
        | alloc _ => exact .const fun _ => by simpa [hop] using h
        | box _ _ => exact .const fun _ => by simpa [hop] using h
        | store _ _ _ => exact .const fun _ => by simpa [hop] using h
        | _ =>
          simp only [hop] at h ⊢
          split at h
          · rename_i hp; simp only [hp, if_true]; exact .const fun _ => h
          · rename_i hp; simp only [if_neg hp]; exact stepS_ev h
  · cases h
theorem stepD_ev {ops : List Oper} {o : Oper} {s s' : St} (h : stepD P (callL P ext) n E ops o s = some s') : Ev (fun N => stepD P (aev P ext N) n E ops o s) s' := by
  unfold stepD at h ⊢
  split at h
  · rename_i hin
    simp only [if_pos hin]
    cases hw : dwanted ops s o with
    | none => rw [hw] at h; cases h
    | some b =>
      rw [hw] at h
      cases b with
      | false => exact .const fun _ => h
      | true =>
        simp only at h ⊢
        cases hop : o.op with
        | call cc =>
          simp only [hop] at h ⊢
          split at h
          · rename_i hk
            simp only [if_pos hk]
            split at h
            · rename_i hp; simp only [if_pos hp]; exact stepPtr_ev h
            · cases h
          · rename_i hk
            simp only [if_neg hk]
            split at h
            · cases h
            · rename_i hp; simp only [if_neg hp]; exact stepS_ev h
        | alloc _ => exact .const fun _ => by simpa [hop] using h
        | box _ _ => simp [hop] at h
        | store _ a _ =>
          cases a with
          | tmp k => exact .const fun _ => by simpa [hop] using h
          | _ => simp [hop] at h
        | load _ _ =>
          simp only [hop] at h ⊢
          split at h
          · cases h
          · rename_i hl
            simp only [if_neg hl]
            split at h
            · rename_i hp; simp only [if_pos hp]; exact .const fun _ => h
            · rename_i hp; simp only [if_neg hp]; exact stepS_ev h
        | _ => simp only [hop] at h ⊢; exact stepS_ev h
  · cases h
theorem runOps_ev {ops : List Oper} : ∀ {l : List Oper} {s s' : St}, runOps P (callL P ext) n E ops l s = some s' → Ev (fun N => runOps P (aev P ext N) n E ops l s) s'
  | [], _, _, h => .const fun _ => h
  | o :: l, s, s', h => by
    simp only [runOps] at h ⊢
    obtain ⟨s1, h1, h2⟩ := Option.bind_eq_some_iff.1 h
    split at h1
    · rename_i hr
      simp only [if_pos hr]
      exact (Ev.const fun _ => h1).bind (runOps_ev h2)
    · rename_i hr
      simp only [if_neg hr]
      exact (step_ev h1).bind (runOps_ev h2)
theorem runD_ev {ops : List Oper} : ∀ {l : List Oper} {s s' : St}, runD P (callL P ext) n E ops l s = some s' → Ev (fun N => runD P (aev P ext N) n E ops l s) s'
  | [], _, _, h => .const fun _ => h
  | o :: l, s, s', h => by
    simp only [runD] at h ⊢
    obtain ⟨s1, h1, h2⟩ := Option.bind_eq_some_iff.1 h
    have h1' : Ev (fun N => stepX P (aev P ext N) n E ops o s) s1 := by
      unfold stepX at h1 ⊢
      split at h1
      · rename_i hb; simp only [if_pos hb]; exact step_ev h1
      · rename_i hb; simp only [if_neg hb]; exact stepD_ev h1
    exact h1'.bind (runD_ev h2)
theorem runDraw_ev {ops : List Oper} {s s' : St} (h : runDraw P (callL P ext) n E ops s = some s') : Ev (fun N => runDraw P (aev P ext N) n E ops s) s' := by
  unfold runDraw at h ⊢
  split at h
  · rename_i hd
    simp only [if_pos hd]
    exact runD_ev h
  · cases h

def Awp (P : Program) (ext : Call) (n : Nat) (res : List Tmp) (c : Code) (s : St) (Q : X → St → Prop) : Prop := ∃ x s', Ev (fun N => acode P (aev P ext N) N n res c s) (x, s') ∧ Q x s'
variable {s : St} {Q : X → St → Prop}
theorem Awp.mono {c : Code} {Q' : X → St → Prop} (h : Awp P ext n res c s Q) (hq : ∀ x s, Q x s → Q' x s) : Awp P ext n res c s Q' := by
  obtain ⟨x, s', h1, h2⟩ := h
  exact ⟨x, s', h1, hq _ _ h2⟩
theorem awp_skip (h : Q .normal s) : Awp P ext n res .skip s Q := ⟨.normal, s, .const fun _ => rfl, h⟩
theorem awp_exit {id : Nat} (h : Q (.exit id) s) : Awp P ext n res (.exit id) s Q := ⟨.exit id, s, .const fun _ => rfl, h⟩
theorem awp_ret (h : Q .ret s) : Awp P ext n res .ret s Q := ⟨.ret, s, .const fun _ => rfl, h⟩
theorem awp_region {id : Nat} {ops : Array Oper} {s' : St} (h : runOps P (callL P ext) n (eaters res ops.toList) ops.toList ops.toList (s.frz (Gs.frzAt ops.toList)) = some s') (hq : Q .normal s') : Awp P ext n res (.region id ops false) s Q := by
  refine ⟨.normal, s', ?_, hq⟩
  obtain ⟨N, hN⟩ := runOps_ev h
  exact ⟨N, fun N' h' => by have e := hN N' h'; simp only at e; simp only [acode, Bool.false_eq_true, if_false, e]; rfl⟩
theorem awp_draw {id : Nat} {ops : Array Oper} {s' : St} (h : runDraw P (callL P ext) n (eaters res ops.toList) ops.toList (s.frz (Gs.frzAt ops.toList)) = some s') (hq : Q .normal s') : Awp P ext n res (.region id ops true) s Q := by
  refine ⟨.normal, s', ?_, hq⟩
  obtain ⟨N, hN⟩ := runDraw_ev h
  exact ⟨N, fun N' h' => by have e := hN N' h'; simp only at e; simp only [acode, if_true, e]; rfl⟩
def thenQ (K : St → Prop) (Q : X → St → Prop) : X → St → Prop
  | .normal, s => K s
  | x, s => Q x s
theorem awp_seq {a b : Code} (h : Awp P ext n res a s (thenQ (fun s => Awp P ext n res b s Q) Q)) : Awp P ext n res (.seq a b) s Q := by
  obtain ⟨x, s1, ⟨N1, h1⟩, h2⟩ := h
  cases x with
  | normal =>
    obtain ⟨y, s2, ⟨N2, h3⟩, h4⟩ := h2
    refine ⟨y, s2, ⟨max N1 N2, fun N hN => ?_⟩, h4⟩
    simp only [acode]
    have e := h1 N (by omega); simp only at e; rw [e]
    exact h3 N (by omega)
  | exit id => exact ⟨_, s1, ⟨N1, fun N hN => by simp only [acode]; have e := h1 N hN; simp only at e; rw [e]⟩, h2⟩
  | ret => exact ⟨_, s1, ⟨N1, fun N hN => by simp only [acode]; have e := h1 N hN; simp only at e; rw [e]⟩, h2⟩
theorem awp_true {o : Operand} {a b : Code} (hc : get s.slot o = .bool true) (h : Awp P ext n res a s Q) : Awp P ext n res (.cond o a b) s Q := by
  obtain ⟨x, s1, ⟨N1, h1⟩, h2⟩ := h
  exact ⟨x, s1, ⟨N1, fun N hN => by simp only [acode, hc]; exact h1 N hN⟩, h2⟩
theorem awp_false {o : Operand} {a b : Code} (hc : get s.slot o = .bool false) (h : Awp P ext n res b s Q) : Awp P ext n res (.cond o a b) s Q := by
  obtain ⟨x, s1, ⟨N1, h1⟩, h2⟩ := h
  exact ⟨x, s1, ⟨N1, fun N hN => by simp only [acode, hc]; exact h1 N hN⟩, h2⟩
def blockQ (id : Nat) (Q : X → St → Prop) : X → St → Prop
  | .exit i, s => if i = id then Q .normal s else Q (.exit i) s
  | x, s => Q x s
theorem awp_block {id : Nat} {b : Code} (h : Awp P ext n res b s (blockQ id Q)) : Awp P ext n res (.block id b) s Q := by
  obtain ⟨x, s1, ⟨N1, h1⟩, h2⟩ := h
  cases x with
  | normal => exact ⟨_, s1, ⟨N1, fun N hN => by simp only [acode]; have e := h1 N hN; simp only at e; rw [e]⟩, h2⟩
  | ret => exact ⟨_, s1, ⟨N1, fun N hN => by simp only [acode]; have e := h1 N hN; simp only at e; rw [e]⟩, h2⟩
  | exit i =>
    simp only [blockQ] at h2
    split at h2
    · rename_i hi
      exact ⟨.normal, s1, ⟨N1, fun N hN => by simp only [acode]; have e := h1 N hN; simp only at e; rw [e]; simp [hi]⟩, h2⟩
    · rename_i hi
      exact ⟨.exit i, s1, ⟨N1, fun N hN => by simp only [acode]; have e := h1 N hN; simp only at e; rw [e]; simp [hi]⟩, h2⟩
theorem awp_loop {b : Code} (I : St → Prop) (μ : St → Nat) (h0 : I s) (round : ∀ s, I s → Awp P ext n res b s (thenQ (fun s' => I s' ∧ μ s' < μ s) Q)) : Awp P ext n res (.loop b) s Q := by
  have key : ∀ m s, μ s = m → I s → ∃ x s', Ev (fun N => aloop (acode P (aev P ext N) N n res b) N s) (x, s') ∧ Q x s' ∧ ∃ M, ∀ N, M ≤ N → ∀ k, M ≤ k → aloop (acode P (aev P ext N) N n res b) k s = some (x, s') := by
    intro m
    induction m using Nat.strongRecOn with
    | _ m ih =>
      intro s hm hI
      obtain ⟨x, s1, ⟨N1, h1⟩, h2⟩ := round s hI
      cases x with
      | normal =>
        obtain ⟨hI1, hlt⟩ := h2
        obtain ⟨y, s2, _, hq, M, hM⟩ := ih (μ s1) (hm ▸ hlt) s1 rfl hI1
        have hall : ∀ N, max N1 M + 1 ≤ N → ∀ k, max N1 M + 1 ≤ k → aloop (acode P (aev P ext N) N n res b) k s = some (y, s2) := by
          intro N hN k hk
          obtain ⟨k', rfl⟩ : ∃ k', k = k' + 1 := ⟨k - 1, by omega⟩
          simp only [aloop]
          have e := h1 N (by omega); simp only at e; rw [e]
          exact hM N (by omega) k' (by omega)
        exact ⟨y, s2, ⟨_, fun N hN => hall N hN N hN⟩, hq, _, hall⟩
      | exit id =>
        have hall : ∀ N, N1 + 1 ≤ N → ∀ k, N1 + 1 ≤ k → aloop (acode P (aev P ext N) N n res b) k s = some (.exit id, s1) := by
          intro N hN k hk
          obtain ⟨k', rfl⟩ : ∃ k', k = k' + 1 := ⟨k - 1, by omega⟩
          simp only [aloop]
          have e := h1 N (by omega); simp only at e; rw [e]
        exact ⟨_, s1, ⟨_, fun N hN => hall N hN N hN⟩, h2, _, hall⟩
      | ret =>
        have hall : ∀ N, N1 + 1 ≤ N → ∀ k, N1 + 1 ≤ k → aloop (acode P (aev P ext N) N n res b) k s = some (.ret, s1) := by
          intro N hN k hk
          obtain ⟨k', rfl⟩ : ∃ k', k = k' + 1 := ⟨k - 1, by omega⟩
          simp only [aloop]
          have e := h1 N (by omega); simp only at e; rw [e]
        exact ⟨_, s1, ⟨_, fun N hN => hall N hN N hN⟩, h2, _, hall⟩
  obtain ⟨x, s', h1, h2, _⟩ := key _ s rfl h0
  exact ⟨x, s', h1, h2⟩
theorem callL_of {f : FuncId} {fn : Func} {c : Code} {args : List D} {pbs : List Bx} {R : D × List Room × List Bx} (hx : ext f args pbs = none) (hf : P.funcs[f]? = some fn) (hb : fn.body = some c)
    (h : Awp P ext (max args.length fn.ntmps) (resTmps fn) c (entry args pbs) (fun x s => leaving P fn pbs (some (x, s)) = some R)) : callL P ext f args pbs = some R := by
  obtain ⟨x, s', ⟨N, hN⟩, hq⟩ := h
  refine aev_callL (N := N + 1) ?_
  simp only [aev, hx, hf, hb]
  have e := hN N (Nat.le_refl N)
  simp only at e
  rw [e]
  exact hq
end
end Go.Av
namespace Go.Av
open Go.RowKit
variable [Gs]

def okP (r : Option (D × List Room)) (f : D → List Room → Prop) : Prop := match r with | some (d, r) => f d r | none => False
def okS (r : Option St) (f : St → Prop) : Prop := match r with | some s => f s | none => False
def gd (b : Bool) (A B : Prop) : Prop := (b = true → A) ∧ (b = false → B)
def gdD (d : D) (want : Bool) (A B : Prop) : Prop := match d with | .bool b => gd (b == want) A B | .tuple [] => B | _ => False
def cdD (d : D) (A B : Prop) : Prop := match d with | .bool b => gd b A B | _ => False
def dwP (_n : Nat) (b : Bool) (A : Prop) : Prop := b = true ∧ A
section
variable (P : Program) (ext : Call) (n : Nat) (E : List Tmp)
def stepK (ops : List Oper) (o : Oper) (s : St) (K : St → Prop) : Prop :=
  match o.op with
  | .alloc _ | .box _ _ | .store _ _ _ => okS (stepBox P o s) K
  | .call _ => if (ptrArgs o s.slot).isSome = true then okS (stepPtr (callL P ext) o s) K else okS (stepC P (callL P ext) E o s) K
  | .load _ _ => if takes P E s.slot o = true then okS (stepTake P o s) K else okP (sval P (callL P ext) s.slot s.box (s.taken (stake E o)) o) fun d r => K ((s.demote (stake E o)).put o.dst d r)
  | _ => okP (sval P (callL P ext) s.slot s.box (s.taken (stake E o)) o) fun d r => K ((s.demote (stake E o)).put o.dst d r)
def stepDK (ops : List Oper) (o : Oper) (s : St) (K : St → Prop) : Prop :=
  match o.op with
  | .alloc _ => if optIn (allocKeys ops) o.dst = true then okS (stepBox P o s) K else False
  | .box _ _ => False
  | .store _ (.tmp k) _ => if (allocKeys ops).contains k = true ∧ o.dst = none ∧ ptrAt s.slot k = true then okS (stepBox P o s) K else False
  | .store _ _ _ => False
  | .load _ _ => if loadsOwn (allocKeys ops) s.slot o = true then False else if takes P E s.slot o = true then okS (stepTake P o s) K else okP (sval P (callL P ext) s.slot s.box (s.taken (stake E o)) o) fun d r => K ((s.demote (stake E o)).put o.dst d r)
  | .call _ => if (callKey o).isSome = true then (if optIn (allocKeys ops) (callKey o) = true ∧ pOk s.slot o = true then okS (stepPtr (callL P ext) o s) K else False) else if (ptrArgs o s.slot).isSome = true then False else
      (okP (sval P (callL P ext) s.slot s.box (s.taken (stake E o)) o) fun d r => K ((s.demote (stake E o)).put o.dst d r))
  | _ => okP (sval P (callL P ext) s.slot s.box (s.taken (stake E o)) o) fun d r => K ((s.demote (stake E o)).put o.dst d r)
def guardK (_n : Nat) (ops : List Oper) (o : Oper) (s : St) (A B : Prop) : Prop :=
  match o.guard with
  | none => A
  | some (j, want) => match (ops[j]?).bind (·.dst) with
    | none => False
    | some t => gdD (s.slot t) want A B
def opsK (ops : List Oper) : List Oper → St → (St → Prop) → Prop
  | [], s, K => K s
  | o :: l, s, K => if Gs.rowAt o = true then okS (stepRow P n o s) (fun s' => opsK ops l s' K) else if inB n o = true then guardK n ops o s (stepK P ext E ops o s fun s' => opsK ops l s' K) (opsK ops l (s.put o.dst (.tuple []) []) K) else False
def opsDK (ops : List Oper) : List Oper → St → (St → Prop) → Prop
  | [], s, K => K s
  | o :: l, s, K => if inB n o = true then guardK n ops o s (if isBar ops o = true then stepK P ext E ops o s (fun s' => opsDK ops l s' K) else stepDK P ext E ops o s fun s' => opsDK ops l s' K) (if isLocal (allocKeys ops) o = true then False else opsDK ops l (s.put o.dst (.tuple []) []) K) else False
def drawShape (ops : List Oper) : Bool := drawOk E ops
end
def awp (P : Program) (ext : Call) (n : Nat) (res : List Tmp) : Code → St → (X → St → Prop) → Prop
  | .skip, s, Q => Q .normal s
  | .region _ ops false, s, Q => opsK P ext n (eaters res ops.toList) ops.toList ops.toList (s.frz (Gs.frzAt ops.toList)) (Q .normal)
  | .region _ ops true, s, Q => dwP n (drawShape (eaters res ops.toList) ops.toList) (opsDK P ext n (eaters res ops.toList) ops.toList ops.toList (s.frz (Gs.frzAt ops.toList)) (Q .normal))
  | .seq a b, s, Q => awp P ext n res a s (thenQ (fun s => awp P ext n res b s Q) Q)
  | .cond o a b, s, Q => cdD (get s.slot o) (awp P ext n res a s Q) (awp P ext n res b s Q)
  | .block id b, s, Q => awp P ext n res b s (blockQ id Q)
  | .loop b, s, Q => Awp P ext n res (.loop b) s Q
  | .exit id, s, Q => Q (.exit id) s
  | .ret, s, Q => Q .ret s
  | _, _, _ => False

theorem entry_slot (args : List D) (pbs : List Bx) (j : Nat) : (entry args pbs).slot j = args.getD j (.tuple []) := rfl
theorem entry_room (args : List D) (pbs : List Bx) (j : Nat) : (entry args pbs).room j = [] := rfl
theorem entry_box (args : List D) (pbs : List Bx) (k : Nat) : (entry args pbs).box k = if 1000000 ≤ k then pbs[k - 1000000]? else none := rfl
theorem entry_ctr (args : List D) (pbs : List Bx) : (entry args pbs).ctr = fun _ => 1 := rfl

section
variable {P : Program} {ext : Call} {n : Nat} {E : List Tmp} {res : List Tmp}
theorem okP_spec {r : Option (D × List Room)} {f : D → List Room → Prop} (h : okP r f) : ∃ d m, r = some (d, m) ∧ f d m := by
  unfold okP at h
  split at h
  · exact ⟨_, _, rfl, h⟩
  · exact h.elim
theorem okS_spec {r : Option St} {f : St → Prop} (h : okS r f) : ∃ s, r = some s ∧ f s := by
  unfold okS at h
  split at h
  · exact ⟨_, rfl, h⟩
  · exact h.elim
theorem guardK_spec {ops : List Oper} {o : Oper} {s : St} {A B : Prop} (h : guardK n ops o s A B) : (dwanted ops s o = some true ∧ A) ∨ (dwanted ops s o = some false ∧ B) := by
  unfold guardK at h
  unfold dwanted
  split at h
  · rename_i hg
    rw [hg]
    exact .inl ⟨rfl, h⟩
  · rename_i j want hg
    rw [hg]
    simp only
    split at h
    · exact h.elim
    · rename_i t ht
      simp only [ht]
      unfold gdD at h
      split at h
      · rename_i b hb
        simp only [hb]
        cases hbw : b == want with
        | true =>
          rw [hbw] at h
          exact .inl ⟨rfl, h.1 rfl⟩
        | false =>
          rw [hbw] at h
          exact .inr ⟨rfl, h.2 rfl⟩
      · rename_i hb
        simp only [hb]
        exact .inr ⟨trivial, h⟩
      · exact h.elim
theorem stepK_spec {ops : List Oper} {o : Oper} {s : St} {K : St → Prop} (hin : inB n o = true) (hw : dwanted ops s o = some true) (h : stepK P ext E ops o s K) : ∃ s', step P (callL P ext) n E ops o s = some s' ∧ K s' := by
  have hS : (okP (sval P (callL P ext) s.slot s.box (s.taken (stake E o)) o) fun d r => K ((s.demote (stake E o)).put o.dst d r)) → ∃ s', stepS P (callL P ext) E o s = some s' ∧ K s' := fun h => by
    obtain ⟨d, m, h1, h2⟩ := okP_spec h
    exact ⟨_, by unfold stepS; rw [h1], h2⟩
  unfold stepK at h
  unfold step
  rw [if_pos hin, hw]
  simp only
  cases hop : o.op with
  | call c =>
    simp only [hop] at h ⊢
    split at h
    · rename_i hk; rw [if_pos hk]; exact okS_spec h
    · rename_i hk; rw [if_neg hk]; exact okS_spec h
  | load t a =>
    simp only [hop] at h ⊢
    split at h
    · rename_i hk; rw [if_pos hk]; exact okS_spec h
    · rename_i hk; rw [if_neg hk]; exact hS h
  | alloc _ => simp only [hop] at h ⊢; exact okS_spec h
  | box _ _ => simp only [hop] at h ⊢; exact okS_spec h
  | store _ _ _ => simp only [hop] at h ⊢; exact okS_spec h
  | _ => simp only [hop] at h ⊢; rw [if_neg (by simp [takes, hop])]; exact hS h
theorem stepDK_spec {ops : List Oper} {o : Oper} {s : St} {K : St → Prop} (hin : inB n o = true) (hw : dwanted ops s o = some true) (h : stepDK P ext E ops o s K) : ∃ s', stepD P (callL P ext) n E ops o s = some s' ∧ K s' := by
  have hS : (okP (sval P (callL P ext) s.slot s.box (s.taken (stake E o)) o) fun d r => K ((s.demote (stake E o)).put o.dst d r)) → ∃ s', stepS P (callL P ext) E o s = some s' ∧ K s' := fun h => by
    obtain ⟨d, m, h1, h2⟩ := okP_spec h
    exact ⟨_, by unfold stepS; rw [h1], h2⟩
  unfold stepDK at h
  unfold stepD
  rw [if_pos hin, hw]
  simp only
  cases hop : o.op with
  | call c =>
    simp only [hop] at h ⊢
    split at h
    · rename_i hk
      rw [if_pos hk]
      split at h
      · rename_i hk2; rw [if_pos hk2]; exact okS_spec h
      · exact h.elim
    · rename_i hk
      rw [if_neg hk]
      split at h
      · exact h.elim
      · rename_i hk; rw [if_neg hk]; exact hS h
  | alloc _ =>
    simp only [hop] at h ⊢
    split at h
    · rename_i hk; rw [if_pos hk]; exact okS_spec h
    · exact h.elim
  | box _ _ => simp only [hop] at h
  | store _ a _ =>
    cases a with
    | tmp k =>
      simp only [hop] at h ⊢
      split at h
      · rename_i hk; rw [if_pos hk]; exact okS_spec h
      · exact h.elim
    | _ => simp only [hop] at h
  | load _ _ =>
    simp only [hop] at h ⊢
    split at h
    · exact h.elim
    · rename_i hk
      rw [if_neg hk]
      split at h
      · rename_i hq; rw [if_pos hq]; exact okS_spec h
      · rename_i hq; rw [if_neg hq]; exact hS h
  | _ => simp only [hop] at h ⊢; exact hS h
theorem opsK_spec {ops : List Oper} : ∀ {l : List Oper} {s : St} {K : St → Prop}, opsK P ext n E ops l s K → ∃ s', runOps P (callL P ext) n E ops l s = some s' ∧ K s'
  | [], s, K, h => ⟨s, rfl, h⟩
  | o :: l, s, K, h => by
    simp only [opsK] at h
    split at h
    · rename_i hr
      simp only [runOps, if_pos hr]
      obtain ⟨s1, h1, h2⟩ := okS_spec h
      obtain ⟨s2, h3, h4⟩ := opsK_spec h2
      exact ⟨s2, by rw [h1]; exact h3, h4⟩
    rename_i hr
    split at h
    · rename_i hin
      simp only [runOps, if_neg hr]
      rcases guardK_spec h with ⟨hw, h⟩ | ⟨hw, h⟩
      · obtain ⟨s1, h1, h2⟩ := stepK_spec hin hw h
        obtain ⟨s2, h3, h4⟩ := opsK_spec h2
        exact ⟨s2, by rw [h1]; exact h3, h4⟩
      · obtain ⟨s2, h3, h4⟩ := opsK_spec h
        refine ⟨s2, ?_, h4⟩
        have : step P (callL P ext) n E ops o s = some (s.put o.dst (.tuple []) []) := by unfold step; rw [if_pos hin, hw]
        rw [this]
        exact h3
    · exact h.elim
theorem opsDK_spec {ops : List Oper} : ∀ {l : List Oper} {s : St} {K : St → Prop}, opsDK P ext n E ops l s K → ∃ s', runD P (callL P ext) n E ops l s = some s' ∧ K s'
  | [], s, K, h => ⟨s, rfl, h⟩
  | o :: l, s, K, h => by
    simp only [opsDK] at h
    simp only [runD]
    split at h
    · rename_i hin
      rcases guardK_spec h with ⟨hw, h⟩ | ⟨hw, h⟩
      · split at h
        · rename_i hb
          obtain ⟨s1, h1, h2⟩ := stepK_spec hin hw h
          obtain ⟨s2, h3, h4⟩ := opsDK_spec h2
          exact ⟨s2, by unfold stepX; rw [if_pos hb, h1]; exact h3, h4⟩
        · rename_i hb
          obtain ⟨s1, h1, h2⟩ := stepDK_spec hin hw h
          obtain ⟨s2, h3, h4⟩ := opsDK_spec h2
          exact ⟨s2, by unfold stepX; rw [if_neg hb, h1]; exact h3, h4⟩
      · split at h
        · exact h.elim
        · rename_i hloc
          obtain ⟨s2, h3, h4⟩ := opsDK_spec h
          refine ⟨s2, ?_, h4⟩
          have : stepX P (callL P ext) n E ops o s = some (s.put o.dst (.tuple []) []) := by
            unfold stepX
            split
            · unfold step; rw [if_pos hin, hw]
            · unfold stepD; rw [if_pos hin, hw]; simp only [if_neg hloc]
          rw [this]
          exact h3
    · exact h.elim
theorem cdD_spec {d : D} {A B : Prop} (h : cdD d A B) : (d = .bool true ∧ A) ∨ (d = .bool false ∧ B) := by
  unfold cdD at h
  split at h
  · rename_i b
    cases b with
    | true => exact .inl ⟨rfl, h.1 rfl⟩
    | false => exact .inr ⟨rfl, h.2 rfl⟩
  · exact h.elim
theorem Awp.of : ∀ {c : Code} {s : St} {Q : X → St → Prop}, awp P ext n res c s Q → Awp P ext n res c s Q := by
  intro c
  induction c with
  | skip => intro s Q h; exact awp_skip h
  | region id ops draw =>
    intro s Q h
    cases draw with
    | false =>
      obtain ⟨s', h1, h2⟩ := opsK_spec h
      exact awp_region h1 h2
    | true =>
      obtain ⟨hsh, h⟩ := h
      obtain ⟨s', h1, h2⟩ := opsDK_spec h
      refine awp_draw (s' := s') ?_ h2
      unfold runDraw
      rw [if_pos (show drawOk (eaters res ops.toList) ops.toList = true from hsh)]
      exact h1
  | seq a b iha ihb =>
    intro s Q h
    refine awp_seq ((iha h).mono fun x s h => ?_)
    cases x with
    | normal => exact ihb h
    | exit id => exact h
    | ret => exact h
  | cond o a b iha ihb =>
    intro s Q h
    rcases cdD_spec h with ⟨h1, h2⟩ | ⟨h1, h2⟩
    · exact awp_true h1 (iha h2)
    · exact awp_false h1 (ihb h2)
  | block id b ih => intro s Q h; exact awp_block (ih h)
  | loop b ih => intro s Q h; exact h
  | exit id => intro s Q h; exact awp_exit h
  | ret => intro s Q h; exact awp_ret h
  | _ => intro s Q h; exact h.elim
end
/-! ### What is still to be done, as a list; one question at a time -/
def Lk (_ : Prop) : Type := Nat
def lk (A : Prop) : Lk A := (0 : Nat)
inductive It where
  | code (c : Code)
  | blk (id : Nat)
  | ops (E : List Tmp) (all l : List Oper)
  | dops (E : List Tmp) (all l : List Oper)
def goX (P : Program) (ext : Call) (n : Nat) (res : List Tmp) (Q : X → St → Prop) : List It → X → St → Prop
  | [], x, s => Q x s
  | _ :: _, .ret, s => Q .ret s
  | .blk i :: k, .exit id, s => if id = i then goX P ext n res Q k .normal s else goX P ext n res Q k (.exit id) s
  | _ :: k, .exit id, s => goX P ext n res Q k (.exit id) s
  | .code c :: k, .normal, s => awp P ext n res c s (goX P ext n res Q k)
  | .blk _ :: k, .normal, s => goX P ext n res Q k .normal s
  | .ops E all l :: k, .normal, s => opsK P ext n E all l s (goX P ext n res Q k .normal)
  | .dops E all l :: k, .normal, s => opsDK P ext n E all l s (goX P ext n res Q k .normal)
def isPtr : List D → Bool
  | .ptr _ _ _ :: _ => true
  | _ => false
section
variable (P : Program) (ext : Call) (n : Nat) (res : List Tmp) (Q : X → St → Prop) (k : List It)
def okG (tk : Option (Tmp × Option Nat)) (dst : Option Tmp) (s : St) (r : Option (D × List Room)) : Prop := match r with | some (d, m) => goX P ext n res Q k .normal ((s.demote tk).put dst d m) | none => False
def okB (r : Option St) : Prop := match r with | some s => goX P ext n res Q k .normal s | none => False
def gw (b : Bool) (A B : Prop) (_ : Lk A) (_ : Lk B) : Prop := (b = true → A) ∧ (b = false → B)
def gwD (d : D) (want : Bool) (A B : Prop) (a : Lk A) (b : Lk B) : Prop := match d with | .bool t => gw (t == want) A B a b | .tuple [] => B | _ => False
def cwD (d : D) (A B : Prop) (a : Lk A) (b : Lk B) : Prop := match d with | .bool t => gw t A B a b | _ => False
def drW (t : Bool) (A : Prop) (_ : Lk A) (_ : t = t) : Prop := t = true ∧ A
def guardG (all : List Oper) (g : Option (Nat × Bool)) (s : St) (A B : Prop) (a : Lk A) (b : Lk B) : Prop :=
  match g with
  | none => A
  | some (j, want) => match (all[j]?).bind (·.dst) with
    | none => False
    | some t => gwD (s.slot t) want A B a b
def okR (dst : Option Tmp) (s : St) (r : Option (D × List Room × List Bx)) : Prop := match r with
  | some (d, m, []) => goX P ext n res Q k .normal (s.put dst d m)
  | some (.ptr _ _ _, _, [b]) => (match dst with
    | some t => if t < 1000000 then goX P ext n res Q k .normal ({ s.setBox t (some ⟨s.ctr t, b.cells, b.rooms⟩) with ctr := upd s.ctr t (s.ctr t + 1) }.put (some t) (.ptr t (s.ctr t) 0) []) else False
    | none => False)
  | _ => False
def callG (dst : Option Tmp) (args : List D) (s : St) (f : D) : Prop := match f with
  | .func (.func g) first captured => if (first ++ args ++ captured).all pureB = true then okR P ext n res Q k dst s (callL P ext g (first ++ args ++ captured) []) else False
  | _ => False
def opG (E : List Tmp) (o : Oper) (s : St) : Prop :=
  match o.op with
  | .alloc _ | .box _ _ | .store _ _ _ => okB P ext n res Q k (stepBox P o s)
  | .call c => if (ptrArgs o s.slot).isSome = true then okB P ext n res Q k (stepPtr (callL P ext) o s) else (match c.callee with
    | .value f => callG P ext n res Q k o.dst (c.args.toList.map (get s.slot)) s (get s.slot f)
    | _ => okG P ext n res Q k (stake E o) o.dst s (sval P (callL P ext) s.slot s.box (s.taken (stake E o)) o))
  | .load _ _ => if takes P E s.slot o = true then okB P ext n res Q k (stepTake P o s) else okG P ext n res Q k (stake E o) o.dst s (sval P (callL P ext) s.slot s.box (s.taken (stake E o)) o)
  | _ => okG P ext n res Q k (stake E o) o.dst s (sval P (callL P ext) s.slot s.box (s.taken (stake E o)) o)
def opD (E : List Tmp) (all : List Oper) (o : Oper) (s : St) : Prop :=
  match o.op with
  | .alloc _ => if optIn (allocKeys all) o.dst = true then okB P ext n res Q k (stepBox P o s) else False
  | .box _ _ => False
  | .store _ (.tmp t) _ => if (allocKeys all).contains t = true ∧ o.dst = none ∧ ptrAt s.slot t = true then okB P ext n res Q k (stepBox P o s) else False
  | .store _ _ _ => False
  | .load _ _ => if loadsOwn (allocKeys all) s.slot o = true then False else if takes P E s.slot o = true then okB P ext n res Q k (stepTake P o s) else okG P ext n res Q k (stake E o) o.dst s (sval P (callL P ext) s.slot s.box (s.taken (stake E o)) o)
  | .call _ => if (callKey o).isSome = true then (if optIn (allocKeys all) (callKey o) = true ∧ pOk s.slot o = true then okB P ext n res Q k (stepPtr (callL P ext) o s) else False) else if (ptrArgs o s.slot).isSome = true then False else okG P ext n res Q k (stake E o) o.dst s (sval P (callL P ext) s.slot s.box (s.taken (stake E o)) o)
  | _ => okG P ext n res Q k (stake E o) o.dst s (sval P (callL P ext) s.slot s.box (s.taken (stake E o)) o)
def loopAt (b : Code) (s : St) : Prop := Awp P ext n res (.loop b) s (goX P ext n res Q k)
end
section
variable {P : Program} {ext : Call} {n : Nat} {res : List Tmp} {Q : X → St → Prop} {k : List It} {s : St} {E : List Tmp} {all l : List Oper} {o : Oper}
theorem goX_ret (k : List It) : goX P ext n res Q k .ret s = Q .ret s := by
  cases k with
  | nil => rfl
  | cons it k => cases it <;> rfl
theorem goX_code (c : Code) : goX P ext n res Q (.code c :: k) .normal s = awp P ext n res c s (goX P ext n res Q k) := id rfl
theorem go_nil (x : X) : goX P ext n res Q [] x s = Q x s := id (by cases x <;> rfl)
theorem go_seq (a b : Code) : goX P ext n res Q (.code (.seq a b) :: k) .normal s = goX P ext n res Q (.code a :: .code b :: k) .normal s := by
  show awp P ext n res a s (thenQ (fun s => awp P ext n res b s (goX P ext n res Q k)) (goX P ext n res Q k)) = awp P ext n res a s (goX P ext n res Q (.code b :: k))
  congr 1
  funext x s
  cases x with
  | normal => rfl
  | exit id => rfl
  | ret => rw [goX_ret]; exact goX_ret k
theorem go_cond (c : Operand) (a b : Code) : goX P ext n res Q (.code (.cond c a b) :: k) .normal s = cwD (get s.slot c) (goX P ext n res Q (.code a :: k) .normal s) (goX P ext n res Q (.code b :: k) .normal s) (lk _) (lk _) := id rfl
theorem go_block (id : Nat) (b : Code) : goX P ext n res Q (.code (.block id b) :: k) .normal s = goX P ext n res Q (.code b :: .blk id :: k) .normal s := by
  show awp P ext n res b s (blockQ id (goX P ext n res Q k)) = awp P ext n res b s (goX P ext n res Q (.blk id :: k))
  congr 1
  funext x s
  cases x with
  | normal => rfl
  | exit i => rfl
  | ret => rw [goX_ret]; exact goX_ret k
theorem go_blk (i : Nat) : goX P ext n res Q (.blk i :: k) .normal s = goX P ext n res Q k .normal s := id rfl
theorem go_skip : goX P ext n res Q (.code .skip :: k) .normal s = goX P ext n res Q k .normal s := id rfl
theorem go_exit (id : Nat) : goX P ext n res Q (.code (.exit id) :: k) .normal s = goX P ext n res Q k (.exit id) s := _root_.id rfl
theorem go_retc : goX P ext n res Q (.code .ret :: k) .normal s = Q .ret s := by
  exact goX_ret k
theorem go_xcode (c : Code) (id : Nat) : goX P ext n res Q (.code c :: k) (.exit id) s = goX P ext n res Q k (.exit id) s := _root_.id rfl
theorem go_xblk (i id : Nat) : goX P ext n res Q (.blk i :: k) (.exit id) s = if id = i then goX P ext n res Q k .normal s else goX P ext n res Q k (.exit id) s := _root_.id rfl
theorem go_loop (b : Code) : goX P ext n res Q (.code (.loop b) :: k) .normal s = loopAt P ext n res Q k b s := id rfl
theorem go_region (id : Nat) (ops : Array Oper) : goX P ext n res Q (.code (.region id ops false) :: k) .normal s = goX P ext n res Q (.ops (eaters res ops.toList) ops.toList ops.toList :: k) .normal (s.frz (Gs.frzAt ops.toList)) := _root_.id rfl
theorem go_draw (id : Nat) (ops : Array Oper) : goX P ext n res Q (.code (.region id ops true) :: k) .normal s = drW (drawShape (eaters res ops.toList) ops.toList) (goX P ext n res Q (.dops (eaters res ops.toList) ops.toList ops.toList :: k) .normal (s.frz (Gs.frzAt ops.toList))) (lk _) rfl := _root_.id rfl
theorem go_ops_nil : goX P ext n res Q (.ops E all [] :: k) .normal s = goX P ext n res Q k .normal s := id rfl
theorem go_dops_nil : goX P ext n res Q (.dops E all [] :: k) .normal s = goX P ext n res Q k .normal s := id rfl
theorem okS_stepC : okS (stepC P (callL P ext) E o s) (goX P ext n res Q k .normal) = (match o.op with
    | .call c => (match c.callee with
      | .value f => callG P ext n res Q k o.dst (c.args.toList.map (get s.slot)) s (get s.slot f)
      | _ => okG P ext n res Q k (stake E o) o.dst s (sval P (callL P ext) s.slot s.box (s.taken (stake E o)) o))
    | _ => okS (stepC P (callL P ext) E o s) (goX P ext n res Q k .normal)) := by
  obtain ⟨dst, op, ty, pos, after, guard⟩ := o
  cases op with
  | call cc =>
    obtain ⟨callee, args, ats⟩ := cc
    have hB : (∀ f, callee ≠ .value f) → okS (stepC P (callL P ext) E ⟨dst, .call ⟨callee, args, ats⟩, ty, pos, after, guard⟩ s) (goX P ext n res Q k .normal) = okG P ext n res Q k (stake E ⟨dst, .call ⟨callee, args, ats⟩, ty, pos, after, guard⟩) dst s (sval P (callL P ext) s.slot s.box (s.taken (stake E ⟨dst, .call ⟨callee, args, ats⟩, ty, pos, after, guard⟩)) ⟨dst, .call ⟨callee, args, ats⟩, ty, pos, after, guard⟩) := by
      intro hne
      have hN : stepNew (callL P ext) ⟨dst, .call ⟨callee, args, ats⟩, ty, pos, after, guard⟩ s = none := by
        cases callee with
        | value f => exact absurd rfl (hne f)
        | _ => rfl
      unfold stepC stepS
      rw [hN]
      cases sval P (callL P ext) s.slot s.box (s.taken (stake E ⟨dst, .call ⟨callee, args, ats⟩, ty, pos, after, guard⟩)) ⟨dst, .call ⟨callee, args, ats⟩, ty, pos, after, guard⟩ with
      | none => rfl
      | some x => rfl
    cases callee with
    | value f =>
      have hst : stake E ⟨dst, .call ⟨.value f, args, ats⟩, ty, pos, after, guard⟩ = none := rfl
      show okS ((stepS P (callL P ext) E ⟨dst, .call ⟨.value f, args, ats⟩, ty, pos, after, guard⟩ s).orElse fun _ => stepNew (callL P ext) ⟨dst, .call ⟨.value f, args, ats⟩, ty, pos, after, guard⟩ s) (goX P ext n res Q k .normal) = callG P ext n res Q k dst (args.toList.map (get s.slot)) s (get s.slot f)
      have hno : (∀ g first captured, get s.slot f = .func (.func g) first captured → ¬ (first ++ args.toList.map (get s.slot) ++ captured).all pureB = true) → sval P (callL P ext) s.slot s.box (s.taken (stake E ⟨dst, .call ⟨.value f, args, ats⟩, ty, pos, after, guard⟩)) ⟨dst, .call ⟨.value f, args, ats⟩, ty, pos, after, guard⟩ = none ∧ stepNew (callL P ext) ⟨dst, .call ⟨.value f, args, ats⟩, ty, pos, after, guard⟩ s = none ∧ callG P ext n res Q k dst (args.toList.map (get s.slot)) s (get s.slot f) = False := by
        intro h
        refine ⟨?_, ?_, ?_⟩
        · simp only [sval]
          split
          · rename_i g first captured hf
            rw [if_neg (h g first captured hf)]
          · rfl
        · simp only [stepNew]
          split
          · rename_i g first captured hf
            rw [if_neg (h g first captured hf)]
          · rfl
        · unfold callG
          split
          · rename_i g first captured hf
            rw [if_neg (h g first captured hf)]
          · rfl
      by_cases hex : ∃ g first captured, get s.slot f = .func (.func g) first captured ∧ (first ++ args.toList.map (get s.slot) ++ captured).all pureB = true
      · obtain ⟨g, first, captured, hf, hp⟩ := hex
        have h1 : sval P (callL P ext) s.slot s.box (s.taken (stake E ⟨dst, .call ⟨.value f, args, ats⟩, ty, pos, after, guard⟩)) ⟨dst, .call ⟨.value f, args, ats⟩, ty, pos, after, guard⟩ = plainR (callL P ext g (first ++ args.toList.map (get s.slot) ++ captured) []) := by
          simp only [sval, hf, if_pos hp]
        have h2 : stepNew (callL P ext) ⟨dst, .call ⟨.value f, args, ats⟩, ty, pos, after, guard⟩ s = newR ⟨dst, .call ⟨.value f, args, ats⟩, ty, pos, after, guard⟩ s (callL P ext g (first ++ args.toList.map (get s.slot) ++ captured) []) := by
          simp only [stepNew, hf, if_pos hp]
        unfold stepS
        rw [h1, h2, hst, hf]
        unfold callG
        simp only [if_pos hp]
        generalize callL P ext g (first ++ args.toList.map (get s.slot) ++ captured) [] = r
        match r with
        | none => rfl
        | some (d, m, []) => rfl
        | some (d, m, b :: b2 :: l) => cases d <;> rfl
        | some (d, m, [b]) =>
          cases d with
          | ptr k' g' o' =>
            simp only [plainR, newR, okR, Option.orElse]
            cases dst with
            | none => rfl
            | some t =>
              simp only
              split <;> rfl
          | _ => rfl
      · obtain ⟨h1, h2, h3⟩ := hno (fun g first captured hf hp => hex ⟨g, first, captured, hf, hp⟩)
        unfold stepS
        rw [h1, h2, h3]
        rfl
    | builtin b => exact hB (fun f => by simp)
    | invoke r m => exact hB (fun f => by simp)
  | _ => rfl
theorem opG_eq : stepK P ext E all o s (goX P ext n res Q k .normal) = opG P ext n res Q k E o s := by
  unfold stepK opG
  have hC := okS_stepC (P := P) (ext := ext) (n := n) (res := res) (Q := Q) (k := k) (s := s) (E := E) (o := o)
  cases hop : o.op with
  | call c =>
    simp only [hop] at hC ⊢
    rw [hC]
    rfl
  | _ => rfl
theorem opD_eq : stepDK P ext E all o s (goX P ext n res Q k .normal) = opD P ext n res Q k E all o s := by
  unfold stepDK opD
  cases o.op with
  | store _ a _ => cases a <;> rfl
  | _ => rfl
theorem guardG_eq {A B : Prop} : guardK n all o s A B = guardG all o.guard s A B (lk A) (lk B) := by
  unfold guardK guardG
  cases o.guard with
  | none => rfl
  | some g => rfl
theorem go_ops : goX P ext n res Q (.ops E all (o :: l) :: k) .normal s = if Gs.rowAt o = true then okB P ext n res Q (.ops E all l :: k) (stepRow P n o s) else if inB n o = true then guardG all o.guard s (opG P ext n res Q (.ops E all l :: k) E o s) (goX P ext n res Q (.ops E all l :: k) .normal (s.put o.dst (.tuple []) [])) (lk _) (lk _) else False := by
  rw [← guardG_eq, ← opG_eq (all := all)]
  rfl
theorem go_dops : goX P ext n res Q (.dops E all (o :: l) :: k) .normal s = if inB n o = true then guardG all o.guard s (if isBar all o = true then opG P ext n res Q (.dops E all l :: k) E o s else opD P ext n res Q (.dops E all l :: k) E all o s) (if isLocal (allocKeys all) o = true then False else goX P ext n res Q (.dops E all l :: k) .normal (s.put o.dst (.tuple []) [])) (lk _) (lk _) else False := by
  rw [← guardG_eq, ← opG_eq (all := all), ← opD_eq (all := all)]
  rfl
theorem okG_some (tk : Option (Tmp × Option Nat)) (dst : Option Tmp) (d : D) (m : List Room) : okG P ext n res Q k tk dst s (some (d, m)) = goX P ext n res Q k .normal ((s.demote tk).put dst d m) := id rfl
theorem okB_some (s' : St) : okB P ext n res Q k (some s') = goX P ext n res Q k .normal s' := id rfl
theorem gwD_bool (t want : Bool) (A B : Prop) (a : Lk A) (b : Lk B) : gwD (.bool t) want A B a b = gw (t == want) A B a b := id rfl
theorem gwD_undef (want : Bool) (A B : Prop) (a : Lk A) (b : Lk B) : gwD (.tuple []) want A B a b = B := id rfl
theorem cwD_bool (t : Bool) (A B : Prop) (a : Lk A) (b : Lk B) : cwD (.bool t) A B a b = gw t A B a b := id rfl
theorem gw_true (A B : Prop) (a : Lk A) (b : Lk B) : gw true A B a b = A := by simp [gw]
theorem gw_false (A B : Prop) (a : Lk A) (b : Lk B) : gw false A B a b = B := by simp [gw]
theorem gw_intro {t : Bool} {A B : Prop} {a : Lk A} {b : Lk B} (h : t = true → A) (h' : t = false → B) : gw t A B a b := ⟨h, h'⟩
theorem drW_intro {t : Bool} {A : Prop} {a : Lk A} {e : t = t} (h : t = true) (h' : A) : drW t A a e := ⟨h, h'⟩
theorem guardG_none (A B : Prop) (a : Lk A) (b : Lk B) : guardG all none s A B a b = A := id rfl
theorem loopK {b : Code} (I : St → Prop) (μ : St → Nat) (h0 : I s)
    (round : ∀ (s : St) (K : X → St → Prop), I s → (∀ s', I s' → μ s' < μ s → K .normal s') → (∀ id s', goX P ext n res Q k (.exit id) s' → K (.exit id) s') → (∀ s', Q .ret s' → K .ret s') → goX P ext n res K [.code b] .normal s) :
    loopAt P ext n res Q k b s := by
  refine awp_loop I μ h0 fun s hI => .of ?_
  have := round s (thenQ (fun s' => I s' ∧ μ s' < μ s) (goX P ext n res Q k)) hI (fun s' h1 h2 => ⟨h1, h2⟩) (fun id s' h => h) (fun s' h => by
    show goX P ext n res Q k .ret s'
    rw [goX_ret]; exact h)
  have e : goX P ext n res (thenQ (fun s' => I s' ∧ μ s' < μ s) (goX P ext n res Q k)) [.code b] .normal s = awp P ext n res b s (thenQ (fun s' => I s' ∧ μ s' < μ s) (goX P ext n res Q k)) := by
    rw [goX_code]
    congr 1
  rw [← e]
  exact this
def endV : List (D × Room) → D × List Room
  | [(d, r)] => (d, [r])
  | l => (.tuple (l.map (·.1)), l.map (·.2))
def newV (s : St) : List ResultVar → Option Bx
  | [.tmp t] => (match s.slot t with
    | .ptr k g 0 => if k < 1000000 then (match s.box k with | some bx => if bx.gen = g then some ⟨0, bx.cells, bx.rooms⟩ else none | none => none) else none
    | _ => none)
  | _ => none
def endN (m : Nat) (R : D × List Room × List Bx) (s : St) : Option Bx → Prop
  | some b => (.ptr nid 0 0, [], ((List.range m).map fun i => (s.box (pid i)).getD default) ++ [b]) = R
  | none => False
def endR (m : Nat) (R : D × List Room × List Bx) (s : St) (rs : List ResultVar) : Option (List (D × Room)) → Prop
  | some l => endV l = (R.1, R.2.1) ∧ ((List.range m).map fun i => (s.box (pid i)).getD default) = R.2.2
  | none => endN m R s (newV s rs)
def endQ (P : Program) (rs : List ResultVar) (m : Nat) (R : D × List Room × List Bx) : X → St → Prop
  | .exit _, _ => False
  | _, s => endR m R s rs (rvars P s rs)
theorem callA {f : FuncId} {fn : Func} {c : Code} {args : List D} {pbs : List Bx} {R : D × List Room × List Bx} {m : Nat} {res : List Tmp} {rs : List ResultVar} (hx : ext f args pbs = none) (hf : P.funcs[f]? = some fn) (hb : fn.body = some c)
    (hm : max args.length fn.ntmps = m) (hres : resTmps fn = res) (hrs : fn.results.toList = rs) (hn : noTwice res = true) (h : Awp P ext m res c (entry args pbs) (endQ P rs pbs.length R)) : callL P ext f args pbs = some R := by
  subst hm hres hrs
  refine callL_of hx hf hb (h.mono fun x s h => ?_)
  have key : endR pbs.length R s fn.results.toList (rvars P s fn.results.toList) → (match finish P fn s with
    | some (d, r) => some (d, r, (List.range pbs.length).map fun i => (s.box (pid i)).getD default)
    | none => (finishNew fn s).map fun b => (.ptr nid 0 0, [], ((List.range pbs.length).map fun i => (s.box (pid i)).getD default) ++ [b])) = some R := by
    intro h
    unfold finish
    rw [if_neg (by rw [hn]; decide)]
    cases hr : rvars P s fn.results.toList with
    | none =>
      rw [hr] at h
      have e : finishNew fn s = newV s fn.results.toList := rfl
      simp only [e]
      cases hv : newV s fn.results.toList with
      | none => simp only [endR, hv, endN] at h
      | some b =>
        simp only [endR, hv, endN] at h
        rw [← h]
        rfl
    | some l =>
      rw [hr] at h
      obtain ⟨h1, h2⟩ := h
      rw [h2]
      obtain ⟨R1, R2, R3⟩ := R
      simp only at h1 ⊢
      match l, h1 with
      | [], h1 => simp [endV] at h1; simp [h1]
      | [(d, r)], h1 => simp [endV] at h1; simp [h1]
      | x :: y :: t, h1 => simp [endV] at h1; simp [h1]
  cases x with
  | exit i => exact h.elim
  | normal => exact key h
  | ret => exact key h
theorem callK {f : FuncId} {fn : Func} {c : Code} {args : List D} {pbs : List Bx} {R : D × List Room × List Bx} {m : Nat} {res : List Tmp} {rs : List ResultVar} (hx : ext f args pbs = none) (hf : P.funcs[f]? = some fn) (hb : fn.body = some c)
    (hm : max args.length fn.ntmps = m) (hres : resTmps fn = res) (hrs : fn.results.toList = rs) (hn : noTwice res = true) (h : goX P ext m res (endQ P rs pbs.length R) [.code c] .normal (entry args pbs)) : callL P ext f args pbs = some R := by
  rw [goX_code] at h
  exact callA hx hf hb hm hres hrs hn ((Awp.of h).mono fun x s h => by rwa [go_nil] at h)
theorem callKx {f : FuncId} {fn : Func} {c : Code} {args : List D} {pbs : List Bx} {Y : D × List Room × List Bx → Prop} {m : Nat} {res : List Tmp} {rs : List ResultVar} (hx : ext f args pbs = none) (hf : P.funcs[f]? = some fn) (hb : fn.body = some c)
    (hm : max args.length fn.ntmps = m) (hres : resTmps fn = res) (hrs : fn.results.toList = rs) (hn : noTwice res = true) (h : goX P ext m res (fun x s => ∃ R, Y R ∧ endQ P rs pbs.length R x s) [.code c] .normal (entry args pbs)) : ∃ R, callL P ext f args pbs = some R ∧ Y R := by
  rw [goX_code] at h
  obtain ⟨x, s', hev, hq⟩ := Awp.of h
  rw [go_nil] at hq
  obtain ⟨R, hY, hR⟩ := hq
  exact ⟨R, callA hx hf hb hm hres hrs hn ⟨x, s', hev, hR⟩, hY⟩
end

section
variable (s : St)
theorem put_slot (k : Nat) (d : D) (r : List Room) (j : Nat) : (s.put (some k) d r).slot j = if j = k then d else s.slot j := rfl
theorem put_room (k : Nat) (d : D) (r : List Room) (j : Nat) : (s.put (some k) d r).room j = if j = k then r else s.room j := rfl
theorem put_box (k : Option Tmp) (d : D) (r : List Room) : (s.put k d r).box = s.box := by cases k <;> rfl
theorem put_ctr (k : Option Tmp) (d : D) (r : List Room) : (s.put k d r).ctr = s.ctr := by cases k <;> rfl
theorem put_none (d : D) (r : List Room) : s.put none d r = s := rfl
theorem dem_none : s.demote none = s := rfl
theorem dem_slot (tk : Option (Tmp × Option Nat)) : (s.demote tk).slot = s.slot := by unfold St.demote; split <;> rfl
theorem dem_box (tk : Option (Tmp × Option Nat)) : (s.demote tk).box = s.box := by unfold St.demote; split <;> rfl
theorem dem_ctr (tk : Option (Tmp × Option Nat)) : (s.demote tk).ctr = s.ctr := by unfold St.demote; split <;> rfl
theorem dem_room (k : Tmp) (j : Nat) : (s.demote (some (k, none))).room j = if j = k then [] else s.room j := rfl
theorem dem_room1 (k : Tmp) (i j : Nat) : (s.demote (some (k, some i))).room j = if j = k then (s.room k).set i .no else s.room j := rfl
theorem setBox_slot (k : Nat) (b : Option Bx) : (s.setBox k b).slot = s.slot := rfl
theorem setBox_room (k : Nat) (b : Option Bx) : (s.setBox k b).room = s.room := rfl
theorem setBox_ctr (k : Nat) (b : Option Bx) : (s.setBox k b).ctr = s.ctr := rfl
theorem setBox_box (k : Nat) (b : Option Bx) (j : Nat) : (s.setBox k b).box j = if j = k then b else s.box j := rfl
end
end Go.Av
namespace Go.Av
theorem wrap64 (n : Int) (h1 : -9223372036854775808 ≤ n) (h2 : n ≤ 9223372036854775807) : IntKind.i64.wrap n = n := by
  rw [IntKind.wrap_i64]; omega
def Hd (p : Prop) : Prop := p
theorem Hd.mk {p : Prop} (h : p) : Hd p := h
theorem loopH {P : Program} {ext : Call} {n : Nat} {res : List Tmp} {Q : X → St → Prop} {k : List It} {s : St} [Gs] {b : Code} (I : St → Prop) (μ : St → Nat) (h0 : I s)
    (round : ∀ (s : St) (K : X → St → Prop), I s → Hd (∀ s', I s' → μ s' < μ s → K .normal s') → Hd (∀ id s', goX P ext n res Q k (.exit id) s' → K (.exit id) s') → Hd (∀ s', Q .ret s' → K .ret s') → goX P ext n res K [.code b] .normal s) :
    loopAt P ext n res Q k b s := loopK I μ h0 round
def slotI (s : St) (j : Nat) : Nat := match s.slot j with | .int _ i => i.toNat | _ => 0
end Go.Av
namespace Go.Av
open Go.RowKit Go.ChangeShapes Go.WideShapes Go.Deep
def Pw {α β : Type} (R : α → β → Prop) (l : List α) (m : List β) : Prop := ∀ (i : Nat) (a : α) (b : β), l[i]? = some a → m[i]? = some b → R a b
theorem pw1 {α β : Type} {R : α → β → Prop} {a : α} {b : β} (h : R a b) : Pw R [a] [b] := by
  intro i x y hx hy
  cases i with
  | zero => simp at hx hy; subst hx; subst hy; exact h
  | succ i => simp at hx
theorem pw_app {α β : Type} {R : α → β → Prop} {l l' : List α} {m m' : List β} (hl : l.length = m.length) (h : Pw R l m) (h' : Pw R l' m') : Pw R (l ++ l') (m ++ m') := by
  intro i a b ha hb
  rw [List.getElem?_append] at ha hb
  rw [← hl] at hb
  split at ha
  · rename_i hi
    rw [if_pos hi] at hb
    exact h i a b ha hb
  · rename_i hi
    rw [if_neg hi] at hb
    exact h' _ a b ha hb
theorem pw_flat {α β γ : Type} {R : α → β → Prop} {f : γ → List α} {g : γ → List β} : ∀ (l : List γ), (∀ x ∈ l, (f x).length = (g x).length ∧ Pw R (f x) (g x)) → (l.flatMap f).length = (l.flatMap g).length ∧ Pw R (l.flatMap f) (l.flatMap g)
  | [], _ => ⟨rfl, fun i a b ha => by simp at ha⟩
  | x :: r, h => by
    obtain ⟨h1, h2⟩ := h x (by simp)
    obtain ⟨h3, h4⟩ := pw_flat r fun y hy => h y (by simp [hy])
    rw [List.flatMap_cons, List.flatMap_cons]
    exact ⟨by simp [h1, h3], pw_app h1 h2 h4⟩
theorem flat_len2 {α : Type} {c : Nat} {f : Nat → List α} : ∀ (n : Nat), (∀ i, i < n → (f i).length = c) → ((List.range n).flatMap f).length = n * c
  | 0, _ => by simp
  | n + 1, h => by
    rw [List.range_succ, List.flatMap_append, List.length_append, flat_len2 n fun i hi => h i (Nat.lt_succ_of_lt hi)]
    simp [h n (Nat.lt_succ_self n), Nat.succ_mul]
theorem flat_at2 {α : Type} {c : Nat} {f : Nat → List α} : ∀ (n : Nat), (∀ i, i < n → (f i).length = c) → ∀ (k : Nat) (v : α), ((List.range n).flatMap f)[k]? = some v → ∃ i j, i < n ∧ j < c ∧ k = i * c + j ∧ (f i)[j]? = some v
  | 0, _, k, v, hk => by simp at hk
  | n + 1, h, k, v, hk => by
    have hl := flat_len2 n fun i hi => h i (Nat.lt_succ_of_lt hi)
    rw [List.range_succ, List.flatMap_append, List.getElem?_append, hl] at hk
    split at hk
    · obtain ⟨i, j, h1, h2, h3, h4⟩ := flat_at2 n (fun i hi => h i (Nat.lt_succ_of_lt hi)) k v hk
      exact ⟨i, j, by omega, h2, h3, h4⟩
    · rename_i hge
      simp only [List.flatMap_cons, List.flatMap_nil, List.append_nil] at hk
      have hlt := (List.getElem?_eq_some_iff.1 hk).1
      rw [h n (Nat.lt_succ_self n)] at hlt
      exact ⟨n, k - n * c, Nat.lt_succ_self n, hlt, by omega, hk⟩

def runOk (P : Program) : Nat → List Field → Bool
  | _, [] => true
  | off, f :: r => f.offset == off && runOk P (off + P.cellsOf f.type) r
def totC (P : Program) : List Field → Nat
  | [] => 0
  | f :: r => P.cellsOf f.type + totC P r
section
variable {H : Type} {enc : TypeId × Value → H} {P : Program} {w : World} {spare : Nat → Bool} {held : Bool}
def old (w : World) : Nat → Nat → Prop := fun b _ => b < w.heap.size
theorem old_lt (w : World) : Lt (old w) w := fun _ _ h => h
theorem cell_old {a : Addr} {v : Value} (h : w.cell? a = some v) : a.block < w.heap.size := by
  unfold World.cell? at h
  split at h
  · rename_i hb
    exact (Array.getElem?_eq_some_iff.1 hb).1
  · simp at h
theorem weightsAll_mem {e : TypeId} {n : Nat} {d : DataW H} : ∀ {l : List (DataW H)}, d ∈ l → n ∈ d.weights P e → n ∈ DataW.weightsAll P e l
  | x :: r, hd, hn => by
    simp only [DataW.weightsAll, List.mem_append]
    rcases List.mem_cons.1 hd with rfl | hd
    · exact .inl hn
    · exact .inr (weightsAll_mem hd hn)
theorem weights_pre {us : List TypeId} {es : List (DataW H)} {n : Nat} : ∀ {ts : List TypeId} {ds : List (DataW H)}, n ∈ DataW.weightsEach P ts ds → n ∈ DataW.weightsEach P (ts ++ us) (ds ++ es)
  | [], _, h => by simp [DataW.weightsEach] at h
  | _ :: _, [], h => by simp [DataW.weightsEach] at h
  | t :: ts, d :: ds, h => by
    simp only [List.cons_append, DataW.weightsEach, List.mem_append] at h ⊢
    exact h.imp id weights_pre
end
section
variable {H : Type} {enc : TypeId × Value → H} {P : Program} {spare : Nat → Bool} {held : Bool}
theorem trodAll_len {w : World} {base : Nat} : ∀ {ts : List TypeId} {vs : List Value} {ds : List (DataW H)} {ps : List MemPlace}, DataW.TrodAll enc P w base spare held ts vs ds ps → vs.length = ts.length ∧ ds.length = ts.length
  | [], [], [], _, _ => ⟨rfl, rfl⟩
  | t :: ts, v :: vs, d :: ds, ps, h => by
    obtain ⟨p, q, _, h2, _⟩ := h
    obtain ⟨h3, h4⟩ := trodAll_len h2
    simp [h3, h4]
theorem trodAll_stay {W W' : World} (hl : laidOutB P = true) (hb : Below W.heap.size W W') : ∀ {ts : List TypeId} {vs : List Value} {ds : List (DataW H)} {ps : List MemPlace}, (ts.all fun t => P.readableRec t && decide (t < P.types.size)) = true →
    DataW.TrodAll enc P W 0 (fun _ => true) true ts vs ds ps → ∃ ps', DataW.TrodAll enc P W' 0 (fun b => decide (b < W.heap.size)) true ts vs ds ps'
  | [], [], [], _, _, _ => ⟨[], rfl⟩
  | t :: ts, v :: vs, d :: ds, ps, hr, h => by
    obtain ⟨p, q, h1, h2, _⟩ := h
    simp only [List.all_cons, Bool.and_eq_true, decide_eq_true_eq] at hr
    obtain ⟨⟨r1, r2⟩, r3⟩ := hr
    obtain ⟨q', hq⟩ := trodAll_stay hl hb r3 h2
    have lt0 : ∀ x ∈ p, x.block < W.heap.size := by obtain ⟨m, hm⟩ := h1; exact DataW.trod_lt m _ _ _ hm
    exact ⟨p ++ q', p, q', Below.trod hl r1 r2 h1 hb lt0, hq, rfl⟩
end
section
variable {H : Type} {enc : TypeId × Value → H} {P : Program} {w : World} {base : Nat} {spare : Nat → Bool} {held : Bool}
end
def okTs (P : Program) (ts : List TypeId) : Bool := ts.all fun t => match P.underlying t with
  | some .bool => true
  | some (.int _) => true
  | some .string => true
  | some (.slice e) => ts.contains e && decide (0 < P.cellsOf e) && decide (0 < P.bytesOf e)
  | some (.struct fs) => runOk P 0 fs.toList && P.cellsOf t == totC P fs.toList && fs.toList.all fun f => ts.contains f.type
  | _ => false
inductive TyD (P : Program) : TypeId → D → Prop
  | bool (t : TypeId) (b : Bool) : P.underlying t = some .bool → TyD P t (.bool b)
  | int (t : TypeId) (k : IntKind) (n : Int) : P.underlying t = some (.int k) → (Lit.int k n).wf = true → TyD P t (.int k n)
  | str (t : TypeId) (l : List UInt8) : P.underlying t = some .string → l.length ≤ reachBytes → TyD P t (.str l)
  | list (t e : TypeId) (es : List D) : P.underlying t = some (.slice e) → es.length * P.bytesOf e ≤ reachBytes → (∀ d ∈ es, TyD P e d) → TyD P t (.list es)
  | agg (t : TypeId) (fs : Array Field) (ds : List D) : P.underlying t = some (.struct fs) → ds.length = fs.size → (∀ (i : Nat) (f : Field) (d : D), fs[i]? = some f → ds[i]? = some d → TyD P f.type d) → TyD P t (.agg (ds.flatMap dcells))
def aggT (P : Program) (t : TypeId) : Bool := match P.underlying t with | some (.struct _) => true | _ => false
section
variable {H : Type} {enc : TypeId × Value → H} {P : Program} {w : World} {spare : Nat → Bool} {held : Bool}
theorem parts_cells2 {cs : List Value} : ∀ (L : List Field) (off : Nat), runOk P off L = true →
    (∀ f ∈ L, ∃ d, TyD P f.type d ∧ ((cs.drop f.offset).take (P.cellsOf f.type)).length = (dcells d).length ∧ (∀ v ∈ (cs.drop f.offset).take (P.cellsOf f.type), v.oneCell' = true) ∧ Pw (Den0 (old w) w) ((cs.drop f.offset).take (P.cellsOf f.type)) (dcells d)) →
    ∃ ds : List D, ds.length = L.length ∧ (∀ (i : Nat) (f : Field) (d : D), L[i]? = some f → ds[i]? = some d → TyD P f.type d) ∧ ((cs.drop off).take (totC P L)).length = (ds.flatMap dcells).length ∧ (∀ v ∈ (cs.drop off).take (totC P L), v.oneCell' = true) ∧ Pw (Den0 (old w) w) ((cs.drop off).take (totC P L)) (ds.flatMap dcells)
  | [], off, _, _ => ⟨[], rfl, fun i f d h => by simp at h, by simp [totC], fun v hv => by simp [totC] at hv, fun i a b h => by simp [totC] at h⟩
  | f :: r, off, hr, hf => by
    simp only [runOk, Bool.and_eq_true, beq_iff_eq] at hr
    obtain ⟨ho, hr⟩ := hr
    obtain ⟨d, d1, d2, d3, d4⟩ := hf f List.mem_cons_self
    obtain ⟨es, e1, e2, e3, e4, e5⟩ := parts_cells2 r (off + P.cellsOf f.type) hr fun g hg => hf g (List.mem_cons_of_mem _ hg)
    rw [ho] at d2 d3 d4
    have hseg : (cs.drop off).take (totC P (f :: r)) = (cs.drop off).take (P.cellsOf f.type) ++ (cs.drop (off + P.cellsOf f.type)).take (totC P r) := by
      simp only [totC]
      rw [List.take_add, List.drop_drop]
    rw [hseg]
    refine ⟨d :: es, by simp [e1], fun i g x hg hx => ?_, by simp [← d2, ← e3], ?_, by rw [List.flatMap_cons]; exact pw_app d2 d4 e5⟩
    · cases i with
      | zero =>
        simp only [List.getElem?_cons_zero, Option.some.injEq] at hg hx
        subst hg hx
        exact d1
      | succ i => exact e2 i g x (by simpa using hg) (by simpa using hx)
    · intro v hv
      rcases List.mem_append.1 hv with hv | hv
      · exact d3 v hv
      · exact e4 v hv
theorem trod_cells2 {ts : List TypeId} (hts : okTs P ts = true) : ∀ (fuel : Nat) (t : TypeId) (base : Nat) (cs : List Value) (x : DataW H × List MemPlace), t ∈ ts → DataW.trod enc P w base spare held fuel t cs = some x → (∀ m ∈ x.1.weights P t, m ≤ reachBytes) →
    ∃ d, TyD P t d ∧ cs.length = (dcells d).length ∧ (∀ v ∈ cs, v.oneCell' = true) ∧ Pw (Den0 (old w) w) cs (dcells d) ∧ (aggT P t = true → ∃ ds, d = .agg ds) ∧ (aggT P t = false → dcells d = [d]) := by
  intro fuel
  induction fuel with
  | zero => intro t base cs x _ h; simp [DataW.trod] at h
  | succ k ih =>
    intro t base cs x ht h hw
    have hT := List.all_eq_true.1 hts t ht
    have na : ∀ {u : TypeDesc}, P.underlying t = some u → (match u with | .struct _ => False | _ => True) → aggT P t = false := by
      intro u hu hn
      unfold aggT
      rw [hu]
      cases u <;> first | rfl | exact hn.elim
    cases hu : P.underlying t with
    | none => rw [hu] at hT; cases hT
    | some u =>
      rw [hu] at hT
      match u, hu, hT with
      | .bool, hu, _ =>
        obtain ⟨b, rfl, _⟩ := DataW.trod_bool hu h
        exact ⟨.bool b, .bool t b hu, rfl, by simp [Value.oneCell'], pw1 (.bool b), (fun hk => by rw [na hu trivial] at hk; cases hk), fun _ => rfl⟩
      | .int k', hu, _ =>
        obtain ⟨m, rfl, _, hwf⟩ := DataW.trod_int hu h
        exact ⟨.int k' m, .int t k' m hu hwf, rfl, by simp [Value.oneCell'], pw1 (.int k' m), (fun hk => by rw [na hu trivial] at hk; cases hk), fun _ => rfl⟩
      | .string, hu, _ =>
        obtain ⟨s, rfl, rfl, hs⟩ := DataW.trod_string hu h
        have hs : s.data.toList.length ≤ reachBytes := hw _ (by simp [DataW.weights])
        refine ⟨.str s.data.toList, .str t _ hu hs, rfl, by simp [Value.oneCell'], pw1 ?_, (fun hk => by rw [na hu trivial] at hk; cases hk), fun _ => rfl⟩
        have := Den0.str (F := old w) (w := w) s.data.toList
        simpa using this
      | .slice e, hu, hT =>
        simp only [Bool.and_eq_true, decide_eq_true_eq, List.contains_iff_mem] at hT
        obtain ⟨⟨he, hpos⟩, hbytes⟩ := hT
        rcases DataW.trod_slice hu h with ⟨rfl, _⟩ | ⟨a, len, cap, elems, rest, k', hk', rfl, rfl, hb, hl, hm, hel, hat, _⟩
        · refine ⟨.list [], .list t e _ hu (by simp) (fun d hd => by cases hd), rfl, by simp [Value.oneCell'], pw1 ?_, (fun hk => by rw [na hu trivial] at hk; cases hk), fun _ => rfl⟩
          exact .list none 0 0 1 [] [] rfl (Nat.le_refl _) (Nat.lt_succ_self 0) (fun e he => by cases he) rfl (.inl rfl) (fun i v x hv => by simp at hv)
        · obtain rfl : k = k' := by omega
          simp only [DataW.weights, hu, List.mem_cons, List.mem_append, forall_eq_or_imp, List.length_map] at hw
          have hlr : len * P.bytesOf e ≤ reachBytes := Nat.le_trans (Nat.mul_le_mul_right _ (by omega)) hw.1
          have hall : ∀ i, i < len → ∃ q : List Value × D, w.cells? base (a.add (i * P.cellsOf e)) (P.cellsOf e) = some q.1 ∧ TyD P e q.2 ∧ q.1.length = (dcells q.2).length ∧ (∀ v ∈ q.1, v.oneCell' = true) ∧ Pw (Den0 (old w) w) q.1 (dcells q.2) := by
            intro i hil
            have h1 := hat i hil
            rw [List.getElem?_eq_getElem (by omega : i < elems.length)] at h1
            obtain ⟨cs', hc, ht'⟩ := Option.bind_eq_some_iff.1 h1
            obtain ⟨d, d1, d2, d3, d4, _⟩ := ih e base cs' _ he ht' fun q hq => hw.2 q (.inl (weightsAll_mem (List.mem_map.2 ⟨elems[i]'(by omega), List.getElem_mem _, rfl⟩) hq))
            exact ⟨(cs', d), hc, d1, d2, d3, d4⟩
          obtain ⟨q, hq⟩ := choose_lt hall
          have hlen : ∀ i, i < len → (q i).1.length = P.cellsOf e := fun i hil => (World.cells?_some (hq i hil).1).2.1
          have hflat : flat ((List.range len).map fun i => (q i).2) = (List.range len).flatMap fun i => dcells (q i).2 := by
            unfold flat
            rw [List.flatMap_map]
          obtain ⟨p1, p2⟩ := pw_flat (R := Den0 (old w) w) (f := fun i => (q i).1) (g := fun i => dcells (q i).2) (List.range len) (fun i hil => by
            obtain ⟨_, _, h3, _, h5⟩ := hq i (List.mem_range.1 hil)
            exact ⟨h3, h5⟩)
          refine ⟨.list ((List.range len).map fun i => (q i).2), .list t e _ hu (by simpa using hlr) ?_, rfl, by simp [Value.oneCell'], pw1 ?_, (fun hk => by rw [na hu trivial] at hk; cases hk), fun _ => rfl⟩
          · intro d hd
            obtain ⟨i, hi', rfl⟩ := List.mem_map.1 hd
            exact (hq i (List.mem_range.1 hi')).2.1
          · refine .list (some a) len cap (P.cellsOf e) _ ((List.range len).flatMap fun i => (q i).1) (by simp) hl hpos ?_ (flat_len2 len hlen) ?_ ?_
            · intro d hd
              obtain ⟨i, hi', rfl⟩ := List.mem_map.1 hd
              rw [← (hq i (List.mem_range.1 hi')).2.2.1]
              exact hlen i (List.mem_range.1 hi')
            · by_cases h0 : len = 0
              · subst h0; exact .inl rfl
              · right
                obtain ⟨b, off, spot⟩ := a
                have hsp : spot = none := by
                  obtain ⟨_, hcl, hat'⟩ := World.cells?_some (hq 0 (by omega)).1
                  have := hat' 0 hpos
                  rw [List.getElem?_eq_getElem (by omega)] at this
                  simpa [Addr.add] using World.cell?_spot this
                subst hsp
                refine ⟨b, off, rfl, fun i' v hv => ?_⟩
                obtain ⟨i, j, hil, hj, rfl, hvj⟩ := flat_at2 len hlen i' v hv
                obtain ⟨_, hcl, hat'⟩ := World.cells?_some (hq i hil).1
                have hc := hat' j hj
                rw [hvj, add_add, add_plain] at hc
                exact ⟨cell_old hc, hc, (hq i hil).2.2.2.1 v (List.mem_of_getElem? hvj)⟩
            · rw [hflat]; exact p2
      | .struct fs, hu, hT =>
        simp only [Bool.and_eq_true, beq_iff_eq, List.all_eq_true, List.contains_iff_mem] at hT
        obtain ⟨⟨hrun, hC⟩, hfm⟩ := hT
        obtain ⟨xs, m, hm, rfl, hcl, hxl, hf⟩ := DataW.trod_struct hu h
        obtain rfl : k = m := by omega
        simp only [DataW.weights, hu] at hw
        obtain ⟨ds, e1, e2, e3, e4, e5⟩ := parts_cells2 (P := P) (w := w) (cs := cs) fs.toList 0 hrun (by
          intro f hfmem
          obtain ⟨i, hi⟩ := List.getElem?_of_mem hfmem
          have hil : i < fs.size := by simpa using (List.getElem?_eq_some_iff.1 hi).1
          have hfi : fs[i]? = some f := by simpa using hi
          have h1 := hf i f hfi
          rw [List.getElem?_eq_getElem (by omega : i < xs.length)] at h1
          obtain ⟨d, d1, d2, d3, d4, _⟩ := ih f.type base _ _ (hfm f hfmem) h1 fun q hq => hw q (DataW.weights_mem_each (j := i) (t := f.type) (d := (xs[i]'(by omega)).1) (by simpa using ⟨f, hfi, rfl⟩) (by rw [List.getElem?_map, List.getElem?_eq_getElem (by omega)]; rfl) q hq)
          exact ⟨d, d1, d2, d3, d4⟩)
        have hcs : (cs.drop 0).take (totC P fs.toList) = cs := by
          rw [List.drop_zero, ← hC, ← hcl, List.take_length]
        rw [hcs] at e3 e4 e5
        have ha : aggT P t = true := by unfold aggT; rw [hu]
        exact ⟨.agg (ds.flatMap dcells), .agg t fs ds hu (by simpa using e1) (fun i f d hfi hd => e2 i f d (by simpa using hfi) hd), e3, e4, e5, fun _ => ⟨_, rfl⟩, fun hk => by rw [ha] at hk; cases hk⟩
      | .float _, _, hT => cases hT
      | .complex _, _, hT => cases hT
      | .pointer _, _, hT => cases hT
      | .array _ _, _, hT => cases hT
      | .map _ _, _, hT => cases hT
      | .func _ _ _, _, hT => cases hT
      | .chan _ _, _, hT => cases hT
      | .interface _, _, hT => cases hT
      | .unsafePointer, _, hT => cases hT
theorem open_val2 {ts : List TypeId} {t : TypeId} {r : Reach} {b0 base : Nat} {v : Value} {d : DataW H} {p : List MemPlace} (hts : okTs P ts = true) (ht : t ∈ ts) (hv : Value.okWide P w r b0 t v) (h : DataW.Trod enc P w base spare held t v d p) (hw : ∀ m ∈ d.weights P t, m ≤ reachBytes) :
    ∃ x, TyD P t x ∧ Den0 (old w) w v x := by
  obtain ⟨fuel, hf⟩ := h
  obtain ⟨x, x1, x2, x3, x4, x5, x6⟩ := trod_cells2 hts fuel t base _ _ ht hf hw
  refine ⟨x, x1, ?_⟩
  have one : v.cells = #[v] → aggT P t = false → Den0 (old w) w v x := fun h1 h2 => x4 0 v x (by rw [h1]; rfl) (by rw [x6 h2]; rfl)
  cases x1 with
  | bool _ b hu =>
    obtain ⟨b, rfl⟩ := okWide_bool hu hv
    exact one rfl (by unfold aggT; rw [hu])
  | int _ k n hu _ =>
    obtain ⟨b, rfl⟩ := okWide_int hu hv
    exact one rfl (by unfold aggT; rw [hu])
  | str _ l hu _ =>
    obtain ⟨b, rfl⟩ := okWide_string hu hv
    exact one rfl (by unfold aggT; rw [hu])
  | list _ e es hu _ _ =>
    obtain ⟨a, len, cap, rfl⟩ := okWide_slice hu hv
    exact one rfl (by unfold aggT; rw [hu])
  | agg _ fs ds hu _ _ =>
    obtain ⟨cs, rfl, _⟩ := okWide_struct hu hv
    have := Den0.agg (F := old w) (w := w) cs.toList (ds.flatMap dcells) x2 x3 x4
    simpa using this
theorem trodAll_den2 {us : List TypeId} {base b0 : Nat} (hts : okTs P us = true) : ∀ {ts : List TypeId} {vs : List Value} {ds : List (DataW H)} {ps : List MemPlace}, DataW.TrodAll enc P w base spare held ts vs ds ps →
    (∀ (j : Nat) t v, ts[j]? = some t → vs[j]? = some v → Value.okWide P w .any b0 t v) → (∀ t ∈ ts, t ∈ us) → (∀ m ∈ DataW.weightsEach P ts ds, m ≤ reachBytes) →
    ∃ as : List D, as.length = vs.length ∧ Pw (TyD P) ts as ∧ Pw (Den0 (old w) w) vs as
  | [], [], [], _, _, _, _, _ => ⟨[], rfl, fun i a b ha hb => by simp at hb, fun i a b ha => by simp at ha⟩
  | t :: ts, v :: vs, d :: ds, ps, h, hv, hT, hw => by
    simp only [DataW.weightsEach, List.mem_append] at hw
    obtain ⟨p, q, h1, h2, _⟩ := h
    obtain ⟨x, x1, x2⟩ := open_val2 hts (hT t (by simp)) (hv 0 t v rfl rfl) h1 fun m hm => hw m (.inl hm)
    obtain ⟨as, a1, a2, a3⟩ := trodAll_den2 hts h2 (fun j t v ht hv' => hv (j + 1) t v ht hv') (fun t ht => hT t (by simp [ht])) fun m hm => hw m (.inr hm)
    exact ⟨x :: as, by simp [a1], pw_app (l := [t]) (m := [x]) rfl (pw1 x1) a2, pw_app (l := [v]) (m := [x]) rfl (pw1 x2) a3⟩
end
end Go.Av
namespace Go.Av
open Go.RowKit Go.ChangeShapes Go.WideShapes
end Go.Av
