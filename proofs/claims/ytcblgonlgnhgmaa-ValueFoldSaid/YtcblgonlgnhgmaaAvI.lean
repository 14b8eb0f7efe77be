/- What holds between a frame of the model and its reading; how a slot's turn keeps it. Over any program; no conditions. -/
import Derived.Test.YtcblgonlgnhgmaaAvC
set_option linter.unusedVariables false
set_option linter.unusedSimpArgs false
set_option linter.unusedSectionVars false
namespace Go.Av
open Go.RowKit
variable [Gs]

def comp : Value → Nat → Option Value
  | .tuple vs, i => vs[i]?
  | v, 0 => some v
  | _, _ => none
def dcomp : D → Nat → Option D
  | .tuple cs, i => cs[i]?
  | d, 0 => some d
  | _, _ => none
/-- What a part's right says, and which block it claims. -/
def RoomAt (P : Program) (F : Nat → Nat → Prop) (w : World) (v : Option Value) (d : Option D) : Option Room → Option Nat → Prop
  | some (.own e), cl => ∃ u es, v = some u ∧ d = some (.list es) ∧ Own P F w e u es.length cl
  | some .full, cl => cl = none ∧ ∃ es a, v = some (.slice a es.length es.length) ∧ d = some (.list es)
  | _, cl => cl = none
def RoomsOK (P : Program) (F : Nat → Nat → Prop) (w : World) (v : Value) (d : D) (r : List Room) (cls : Nat → Option Nat) : Prop :=
  ∀ i, RoomAt P F w (comp v i) (dcomp d i) r[i]? (cls i)
/-- A variable's block. -/
def BoxAt (F : Nat → Nat → Prop) (w : World) (g : Nat) (cells : List D) : Prop :=
  ∃ (vs : List Value) (t : TypeId) (rest : List Value) (fr : Nat × Nat), (w.heap[g]? = some (.cells (vs ++ rest).toArray t fr) ∧ (fr = (0, 0) ∨ (vs ++ rest).length ≤ fr.1)) ∧ vs.length = cells.length ∧ (∀ v ∈ vs, v.oneCell' = true) ∧
    (∀ (i : Nat) (v : Value) (x : D), vs[i]? = some v → cells[i]? = some x → Den0 F w v x) ∧ ∀ o, ¬ F g o

/-- The variables that the caller hands in: how many, and which blocks they are. -/
structure Gv where
  m : Nat
  μ : Nat → Nat
def Gv.S (g : Gv) (b : Nat) : Prop := ∃ i, i < g.m ∧ g.μ i = b

structure Inv (P : Program) (n : Nat) (S0 : Gv) (F0 : Nat → Nat → Prop) (w0 : World) (ν : Nat → Nat → Nat) (F : Nat → Nat → Prop) (cls : Nat → Nat → Option Nat) (s : St) (a : Act) (w : World) : Prop where
  ext : Ext S0.S F0 w0 F w
  lt : Lt F w
  news : ∀ b o, F b o → F0 b o ∨ w0.heap.size ≤ b
  size : a.tmps.size = n
  defers : a.defers = []
  slots : ∀ j, Den s.ctr ν F w (a.tmps.getD j undef) (s.slot j)
  rooms : ∀ j, RoomsOK P F w (a.tmps.getD j undef) (s.slot j) (s.room j) (cls j)
  inj : ∀ j i j' i' g, cls j i = some g → cls j' i' = some g → j = j' ∧ i = i'
  sep : ∀ j i g k bx, cls j i = some g → s.box k = some bx → ν k bx.gen ≠ g
  loc : ∀ j i g, cls j i = some g → g < w.heap.size ∧ w0.heap.size ≤ g
  boxes : ∀ k bx, s.box k = some bx → BoxAt F w (ν k bx.gen) bx.cells ∧ bx.gen < s.ctr ∧ (S0.S (ν k bx.gen) ∨ w0.heap.size ≤ ν k bx.gen)
  binj : ∀ k bx k' bx', s.box k = some bx → s.box k' = some bx' → ν k bx.gen = ν k' bx'.gen → k = k'
  given : ∀ i, i < S0.m → ∃ bx, s.box (pid i) = some bx ∧ bx.gen = 0 ∧ ν (pid i) 0 = S0.μ i
  gok : GOK F w

section
variable {P : Program} {T : Nat → Prop} {F F' : Nat → Nat → Prop} {w w' : World}

theorem lt_of_heap {g : Nat} {o : Obj} (h : w.heap[g]? = some o) : g < w.heap.size := by
  apply Classical.byContradiction
  intro hn
  rw [Array.getElem?_eq_none (by omega)] at h
  cases h
theorem Own.ext {e : TypeId} {v : Value} {n : Nat} {cl : Option Nat} (h : Own P F w e v n cl) (hE : Ext T F w F' w') (hnew : ∀ b o, F' b o → F b o ∨ w.heap.size ≤ b ∨ T b) (hT : ∀ g, cl = some g → ¬ T g) : Own P F' w' e v n cl := by
  cases cl with
  | none => exact h
  | some g =>
    obtain ⟨cap, cur, i, h1, h2, h3, h4, h5, h6⟩ := h
    have hg := lt_of_heap h2
    refine ⟨cap, cur, i, h1, (hE.block g hg (hT g rfl)).trans h2, h3, h4, h5, fun o ho hF => ?_⟩
    rcases hnew g o hF with h | h | h
    · exact h6 o ho h
    · omega
    · exact hT g rfl h
theorem RoomAt.ext {v : Option Value} {d : Option D} {r : Option Room} {cl : Option Nat} (h : RoomAt P F w v d r cl) (hE : Ext T F w F' w') (hnew : ∀ b o, F' b o → F b o ∨ w.heap.size ≤ b ∨ T b) (hT : ∀ g, cl = some g → ¬ T g) : RoomAt P F' w' v d r cl := by
  match r, h with
  | none, h => exact h
  | some .no, h => exact h
  | some .full, h => exact h
  | some (.own e), ⟨u, es, h1, h2, h3⟩ => exact ⟨u, es, h1, h2, h3.ext hE hnew hT⟩
theorem BoxAt.ext {g : Nat} {cells : List D} (h : BoxAt F w g cells) (hE : Ext T F w F' w') (hnew : ∀ b o, F' b o → F b o ∨ w.heap.size ≤ b ∨ T b) (hT : ¬ T g) : BoxAt F' w' g cells := by
  obtain ⟨vs, t, rest, fr, ⟨h1, h0⟩, h2, h3, h4, h5⟩ := h
  have hg := lt_of_heap h1
  refine ⟨vs, t, rest, fr, ⟨(hE.block g hg hT).trans h1, h0⟩, h2, h3, fun i v x hv hx => (h4 i v x hv hx).ext hE, fun o hF => ?_⟩
  rcases hnew g o hF with h | h | h
  · exact h5 o h
  · omega
  · exact hT h
theorem RoomAt.none_ {v : Option Value} {d : Option D} : RoomAt P F w v d none none := rfl
theorem rooms_nil {v : Value} {d : D} : RoomsOK P F w v d [] (fun _ => none) := fun i => by simp [RoomAt]
theorem RoomAt.clsNo {v : Option Value} {d : Option D} {r : Option Room} {cl : Option Nat} (h : RoomAt P F w v d r cl) (hr : r = none ∨ r = some .no) : cl = none := by
  rcases hr with rfl | rfl <;> exact h
end

/-- The claims once a right is taken. -/
def unclaim (cls : Nat → Nat → Option Nat) : Option (Tmp × Option Nat) → Nat → Nat → Option Nat
  | none, j, i => cls j i
  | some (t, none), j, i => if j = t then none else cls j i
  | some (t, some k), j, i => if j = t ∧ i = k then none else cls j i
/-- What a taken right claimed. -/
def took (cls : Nat → Nat → Option Nat) : Option (Tmp × Option Nat) → Nat → Prop
  | none, _ => False
  | some (t, none), g => ∃ i, cls t i = some g
  | some (t, some i), g => cls t i = some g

section
variable {P : Program} {n : Nat} {S0 : Gv} {F0 : Nat → Nat → Prop} {w0 : World} {ν : Nat → Nat → Nat} {F : Nat → Nat → Prop} {cls : Nat → Nat → Option Nat} {s : St} {a : Act} {w : World}

theorem unclaim_some {tk : Option (Tmp × Option Nat)} {j i g : Nat} (h : unclaim cls tk j i = some g) : cls j i = some g := by
  unfold unclaim at h
  split at h
  · exact h
  · split at h
    · cases h
    · exact h
  · split at h
    · cases h
    · exact h
theorem unclaim_took (hinj : ∀ j i j' i' g, cls j i = some g → cls j' i' = some g → j = j' ∧ i = i') {tk : Option (Tmp × Option Nat)} {j i g : Nat} (h : unclaim cls tk j i = some g) : ¬ took cls tk g := by
  have h0 := unclaim_some h
  intro ht
  match tk, h, ht with
  | none, _, ht => exact ht
  | some (t, none), h, ⟨i', ht⟩ =>
    obtain ⟨rfl, _⟩ := hinj _ _ _ _ _ h0 ht
    simp [unclaim] at h
  | some (t, some k), h, ht =>
    obtain ⟨rfl, rfl⟩ := hinj _ _ _ _ _ h0 ht
    simp [unclaim] at h
theorem getElem?_set_no {r : List Room} {k i : Nat} (h : i ≠ k) : (r.set k .no)[i]? = r[i]? := by
  rw [List.getElem?_set_ne (Ne.symm h)]
/-- A right is taken. -/
theorem Inv.demote (h : Inv P n S0 F0 w0 ν F cls s a w) (tk : Option (Tmp × Option Nat)) : Inv P n S0 F0 w0 ν F (unclaim cls tk) (s.demote tk) a w := by
  have hs : (s.demote tk).slot = s.slot ∧ (s.demote tk).box = s.box ∧ (s.demote tk).ctr = s.ctr := by
    unfold St.demote
    split <;> exact ⟨rfl, rfl, rfl⟩
  obtain ⟨e1, e2, e3⟩ := hs
  refine ⟨h.ext, h.lt, h.news, h.size, h.defers, ?_, ?_, fun j i j' i' g h1 h2 => h.inj j i j' i' g (unclaim_some h1) (unclaim_some h2), ?_, fun j i g h1 => h.loc j i g (unclaim_some h1), ?_, ?_, ?_, h.gok⟩
  · rw [e1, e3]; exact h.slots
  · rw [e1]
    intro j i
    have := h.rooms j i
    match tk with
    | none => exact this
    | some (t, none) =>
      simp only [St.demote, unclaim, upd]
      by_cases hj : j = t
      · simp [hj, RoomAt]
      · simpa [hj] using this
    | some (t, some k) =>
      simp only [St.demote, unclaim, upd]
      by_cases hj : j = t
      · subst hj
        by_cases hi : i = k
        · subst hi
          simp only [if_true, and_self]
          by_cases hl : i < (s.room j).length
          · rw [List.getElem?_set_self hl]; rfl
          · rw [List.getElem?_eq_none (by simp; omega)]; rfl
        · simp only [if_true, hi, and_false, if_false]
          rw [getElem?_set_no hi]
          exact this
      · simpa [hj] using this
  · rw [e2]; exact fun j i g k bx h1 h2 => h.sep j i g k bx (unclaim_some h1) h2
  · rw [e2, e3]; exact h.boxes
  · rw [e2]; exact h.binj
  · rw [e2]; exact h.given
theorem getD_put (a : Act) (k : Nat) (v : Value) (hk : k < a.tmps.size) (j : Nat) : (a.put (some k) v).tmps.getD j undef = if j = k then v else a.tmps.getD j undef := by
  simp only [Act.put, Array.getD_eq_getD_getElem?]
  by_cases h : j = k
  · subst h; simp [hk]
  · rw [if_neg h, Array.getElem?_setIfInBounds_ne (Ne.symm h)]
/-- A slot is written, the world grows; of what was claimed only 'T' may have been written to. -/
theorem Inv.put (h : Inv P n S0 F0 w0 ν F cls s a w) {T : Nat → Prop} {F' : Nat → Nat → Prop} {w' : World} {dst : Option Tmp} {v : Value} {d : D} {r : List Room} {ncl : Nat → Option Nat}
    (hd : ∀ k, dst = some k → k < n) (hE : Ext T F w F' w') (hlt : Lt F' w') (hnew : ∀ b o, F' b o → F b o ∨ w.heap.size ≤ b ∨ T b) (hv : Den s.ctr ν F' w' v d) (hr : RoomsOK P F' w' v d r ncl)
    (hT0 : ∀ b, T b → w0.heap.size ≤ b) (hTc : ∀ j i g, cls j i = some g → ¬ T g) (hTb : ∀ k bx, s.box k = some bx → ¬ T (ν k bx.gen))
    (hn : ∀ i g, ncl i = some g → g < w'.heap.size ∧ w0.heap.size ≤ g ∧ (∀ j i, cls j i ≠ some g) ∧ ∀ k bx, s.box k = some bx → ν k bx.gen ≠ g) (hni : ∀ i i' g, ncl i = some g → ncl i' = some g → i = i') :
    ∃ cls', Inv P n S0 F0 w0 ν F' cls' (s.put dst d r) (a.put dst v) w' := by
  have hw0 : w0.heap.size ≤ w.heap.size := h.ext.size
  have hext : Ext S0.S F0 w0 F' w' := h.ext.late hE fun b hb => .inr (hT0 b hb)
  have hnews : ∀ b o, F' b o → F0 b o ∨ w0.heap.size ≤ b := fun b o hF => by
    rcases hnew b o hF with h1 | h1 | h1
    · exact h.news b o h1
    · exact .inr (by omega)
    · exact .inr (hT0 b h1)
  have hbox : ∀ k bx, s.box k = some bx → BoxAt F' w' (ν k bx.gen) bx.cells ∧ bx.gen < s.ctr ∧ (S0.S (ν k bx.gen) ∨ w0.heap.size ≤ ν k bx.gen) := fun k bx hb => by
    obtain ⟨h1, h2, h3⟩ := h.boxes k bx hb
    exact ⟨h1.ext hE hnew (hTb k bx hb), h2, h3⟩
  cases dst with
  | none =>
    refine ⟨cls, hext, hlt, hnews, h.size, h.defers, fun j => (h.slots j).ext hE, fun j i => (h.rooms j i).ext hE hnew (fun g hg => hTc j i g hg), h.inj, h.sep, fun j i g hg => ?_, hbox, h.binj, h.given, h.gok.ext hE⟩
    obtain ⟨h1, h2⟩ := h.loc j i g hg
    exact ⟨Nat.lt_of_lt_of_le h1 hE.size, h2⟩
  | some k =>
    have hk : k < a.tmps.size := by rw [h.size]; exact hd k rfl
    have old : ∀ j i g, cls j i = some g → g < w.heap.size ∧ w0.heap.size ≤ g ∧ ¬ T g := fun j i g hg => ⟨(h.loc j i g hg).1, (h.loc j i g hg).2, hTc j i g hg⟩
    refine ⟨fun j i => if j = k then ncl i else cls j i, hext, hlt, hnews, by simp [Act.put, h.size], h.defers, ?_, ?_, ?_, ?_, ?_, hbox, h.binj, h.given, h.gok.ext hE⟩
    · intro j
      rw [getD_put a k v hk j]
      simp only [St.put, upd]
      by_cases hj : j = k
      · rw [if_pos hj, if_pos hj]; exact hv
      · rw [if_neg hj, if_neg hj]; exact (h.slots j).ext hE
    · intro j i
      rw [getD_put a k v hk j]
      simp only [St.put, upd]
      by_cases hj : j = k
      · simp only [if_pos hj]; exact hr i
      · simp only [if_neg hj]; exact (h.rooms j i).ext hE hnew (fun g hg => hTc j i g hg)
    · intro j i j' i' g h1 h2
      by_cases hj : j = k <;> by_cases hj' : j' = k
      · simp only [if_pos hj] at h1
        simp only [if_pos hj'] at h2
        exact ⟨by rw [hj, hj'], hni i i' g h1 h2⟩
      · simp only [if_pos hj] at h1
        simp only [if_neg hj'] at h2
        exact absurd h2 ((hn i g h1).2.2.1 j' i')
      · simp only [if_neg hj] at h1
        simp only [if_pos hj'] at h2
        exact absurd h1 ((hn i' g h2).2.2.1 j i)
      · simp only [if_neg hj] at h1
        simp only [if_neg hj'] at h2
        exact h.inj j i j' i' g h1 h2
    · intro j i g k' bx h1 h2
      by_cases hj : j = k
      · simp only [if_pos hj] at h1
        exact (hn i g h1).2.2.2 k' bx h2
      · simp only [if_neg hj] at h1
        exact h.sep j i g k' bx h1 h2
    · intro j i g h1
      by_cases hj : j = k
      · simp only [if_pos hj] at h1
        exact ⟨(hn i g h1).1, (hn i g h1).2.1⟩
      · simp only [if_neg hj] at h1
        exact ⟨Nat.lt_of_lt_of_le (old j i g h1).1 hE.size, (old j i g h1).2.1⟩
end
end Go.Av
