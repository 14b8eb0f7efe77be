/- One operation of the model against one step of the evaluator. Over any program; the callees by what is asked of 'call'. -/
import Derived.Test.YtcblgonlgnhgmaaAvI
set_option linter.unusedVariables false
set_option linter.unusedSimpArgs false
set_option linter.unusedSectionVars false
namespace Go.Av
open Go.RowKit
variable [Gs]

/-- No function is the model's own counter of goroutines; elements of slices have a zero value; orders are drawn from all. -/
structure Fine (P : Program) : Prop where
  mixed : P.follows .mixedOrders = true
  names : ∀ (f : FuncId) (fn : Func), P.funcs[f]? = some fn → (fn.name == "runtime.NumGoroutine") = false

/-- Which blocks a callee's given variables are. -/
def argNu (μ : Nat → Nat) : Nat → Nat → Nat := fun k _ => μ (k - 1000000)
/-- What a call leaves. -/
def Ret (P : Program) (m : Nat) (μ : Nat → Nat) (F : Nat → Nat → Prop) (w : World) (d : D) (r : List Room) (pbs' : List Bx) (e : Ending) (w' : World) : Prop :=
  ∃ v F' ncl, e = .returned v ∧ Ext (fun b => ∃ i, i < m ∧ μ i = b) F w F' w' ∧ Lt F' w' ∧ (∀ b o, F' b o → F b o ∨ w.heap.size ≤ b) ∧
    ((pbs'.length = m ∧ (∀ c ν, Den c ν F' w' v d) ∧ RoomsOK P F' w' v d r ncl) ∨
      (pbs'.length = m + 1 ∧ ∃ g, v = .pointer (some ⟨g, 0, none⟩) ∧ w.heap.size ≤ g ∧ g < w'.heap.size ∧ ∀ bx, pbs'[m]? = some bx → BoxAt F' w' g bx.cells)) ∧
    (∀ i g, ncl i = some g → w.heap.size ≤ g ∧ g < w'.heap.size) ∧ (∀ i i' g, ncl i = some g → ncl i' = some g → i = i') ∧ ∀ i bx, i < m → pbs'[i]? = some bx → BoxAt F' w' (μ i) bx.cells
def CallOK (P : Program) (call : Call) : Prop :=
  ∀ (f : FuncId) (args : List D) (pbs : List Bx) (d : D) (r : List Room) (pbs' : List Bx), call f args pbs = some (d, r, pbs') →
    (∃ fn, P.funcs[f]? = some fn ∧ fn.body.isSome = true) ∧
    ∀ (vals : List Value) (w : World) (F : Nat → Nat → Prop) (μ : Nat → Nat), vals.length = args.length → (∀ (i : Nat) (v : Value) (x : D), vals[i]? = some v → args[i]? = some x → Den 1 (argNu μ) F w v x) →
      (∀ i bx, pbs[i]? = some bx → BoxAt F w (μ i) bx.cells ∧ bx.gen = 0) → (∀ i j, i < pbs.length → j < pbs.length → μ i = μ j → i = j) → Lt F w → GOK F w →
      Calls P f vals.toArray w (Ret P pbs.length μ F w d r pbs')

section
variable {P : Program} {n : Nat} {S0 : Gv} {F0 : Nat → Nat → Prop} {w0 : World} {ν : Nat → Nat → Nat} {F : Nat → Nat → Prop} {cls : Nat → Nat → Option Nat} {s : St} {a : Act} {w : World}
variable {K : Act → World → Prop} {Q : Exit → Act → World → Prop} {o : Oper}

theorem took_loc {tk : Option (Tmp × Option Nat)} {g : Nat} (h : took cls tk g) : ∃ j i, cls j i = some g := by
  match tk, h with
  | some (t, none), ⟨i, h⟩ => exact ⟨t, i, h⟩
  | some (t, some i), h => exact ⟨t, i, h⟩
theorem inv_value (hI : Inv P n S0 F0 w0 ν F cls s a w) {tk : Option (Tmp × Option Nat)} {F' : Nat → Nat → Prop} {w' : World} {dst : Option Tmp} {v : Value} {d : D} {r : List Room} {ncl : Nat → Option Nat} (hin : ∀ k, dst = some k → k < n)
    (hE : Ext (took cls tk) F w F' w') (hlt : Lt F' w') (hnew : ∀ b o, F' b o → F b o ∨ w.heap.size ≤ b ∨ took cls tk b) (hv : Den s.ctr ν F' w' v d) (hr : RoomsOK P F' w' v d r ncl)
    (hn : ∀ i g, ncl i = some g → g < w'.heap.size ∧ (w.heap.size ≤ g ∨ took cls tk g)) (hni : ∀ i i' g, ncl i = some g → ncl i' = some g → i = i') :
    ∃ cls', Inv P n S0 F0 w0 ν F' cls' ((s.demote tk).put dst d r) (a.put dst v) w' := by
  have hD := hI.demote tk
  have e3 : (s.demote tk).ctr = s.ctr := by unfold St.demote; split <;> rfl
  have e2 : (s.demote tk).box = s.box := by unfold St.demote; split <;> rfl
  refine hD.put hin hE hlt hnew (by rw [e3]; exact hv) hr ?_ ?_ ?_ (fun i g hg => ?_) hni
  · intro b hb
    obtain ⟨j, i, h⟩ := took_loc hb
    exact (hI.loc j i b h).2
  · intro j i g h1 h2
    exact unclaim_took hI.inj h1 h2
  · intro k bx h1 h2
    rw [e2] at h1
    obtain ⟨j, i, h⟩ := took_loc h2
    exact hI.sep j i _ k bx h h1 rfl
  · obtain ⟨h1, h2⟩ := hn i g hg
    refine ⟨h1, ?_, fun j' i' h3 => ?_, fun k bx h3 h4 => ?_⟩
    · rcases h2 with h2 | h2
      · exact Nat.le_trans hI.ext.size h2
      · obtain ⟨j', i', h⟩ := took_loc h2
        exact (hI.loc _ _ _ h).2
    · rcases h2 with h2 | h2
      · have := (hI.loc _ _ _ (unclaim_some h3)).1
        omega
      · exact unclaim_took hI.inj h3 h2
    · rw [e2] at h3
      rcases h2 with h2 | h2
      · obtain ⟨⟨vs, t, _, _, ⟨h5, _⟩, _⟩, _⟩ := hI.boxes k bx h3
        have := lt_of_heap h5
        omega
      · obtain ⟨j', i', h⟩ := took_loc h2
        exact hI.sep _ _ _ k bx h h3 h4
theorem wp_value (hI : Inv P n S0 F0 w0 ν F cls s a w) {tk : Option (Tmp × Option Nat)} {F' : Nat → Nat → Prop} {w' : World} {v : Value} {d : D} {r : List Room} {ncl : Nat → Option Nat} (hin : ∀ k, o.dst = some k → k < n)
    (hrun : (execOp a.eval o).run P w = .ok (.value v) w')
    (hE : Ext (took cls tk) F w F' w') (hlt : Lt F' w') (hnew : ∀ b o, F' b o → F b o ∨ w.heap.size ≤ b ∨ took cls tk b) (hv : Den s.ctr ν F' w' v d) (hr : RoomsOK P F' w' v d r ncl)
    (hn : ∀ i g, ncl i = some g → g < w'.heap.size ∧ (w.heap.size ≤ g ∨ took cls tk g)) (hni : ∀ i i' g, ncl i = some g → ncl i' = some g → i = i')
    (hK : ∀ a' w', (∃ F' cls', Inv P n S0 F0 w0 ν F' cls' ((s.demote tk).put o.dst d r) a' w') → K a' w') : o.wp P a w K Q := by
  unfold Oper.wp
  rw [hrun, Oper.upon_value]
  exact hK _ _ ⟨F', inv_value hI hin hE hlt hnew hv hr hn hni⟩
/-- The same, the world as it was, and no right given. -/
theorem wp_same (hI : Inv P n S0 F0 w0 ν F cls s a w) {tk : Option (Tmp × Option Nat)} {v : Value} {d : D} (hin : ∀ k, o.dst = some k → k < n) (hrun : (execOp a.eval o).run P w = .ok (.value v) w) (hv : Den s.ctr ν F w v d)
    (hK : ∀ a' w', (∃ F' cls', Inv P n S0 F0 w0 ν F' cls' ((s.demote tk).put o.dst d []) a' w') → K a' w') : o.wp P a w K Q :=
  wp_value hI hin hrun (Ext.refl _ _ _) hI.lt (fun b o h => .inl h) hv rooms_nil (fun i g h => by cases h) (fun i i' g h => by cases h) hK

theorem exec_v {v : Value} {w' : World} {x : Sem Value} (h : x.run P w = .ok v w') : ((do pure (.value (← x)) : Sem Next)).run P w = .ok (.value v) w' := by
  rw [Sem.run_bind, h]
  rfl
theorem map_den (hI : Inv P n S0 F0 w0 ν F cls s a w) (xs : List Operand) : (xs.map a.eval).length = (xs.map (get s.slot)).length ∧ ∀ (i : Nat) (v : Value) (x : D), (xs.map a.eval)[i]? = some v → (xs.map (get s.slot))[i]? = some x → Den s.ctr ν F w v x := by
  refine ⟨by simp, fun i v x hv hx => ?_⟩
  rw [List.getElem?_map] at hv hx
  cases hxi : xs[i]? with
  | none => rw [hxi] at hv; cases hv
  | some y =>
    rw [hxi] at hv hx
    simp at hv hx
    subst hv hx
    exact get_den hI.gok hI.slots y
theorem pairs_den (hI : Inv P n S0 F0 w0 ν F cls s a w) (ps : Array (Nat × Operand)) : ((ps.map fun (i, x) => (i, a.eval x)).toList).length = (ps.toList.map fun p => (p.1, get s.slot p.2)).length ∧
    ∀ (i : Nat) (v : Nat × Value) (x : Nat × D), ((ps.map fun (i, x) => (i, a.eval x)).toList)[i]? = some v → (ps.toList.map fun p => (p.1, get s.slot p.2))[i]? = some x → v.1 = x.1 ∧ Den s.ctr ν F w v.2 x.2 := by
  refine ⟨by simp, fun i v x hv hx => ?_⟩
  rw [Array.toList_map, List.getElem?_map] at hv
  rw [List.getElem?_map] at hx
  cases hxi : ps.toList[i]? with
  | none => rw [hxi] at hv; cases hv
  | some y =>
    rw [hxi] at hv hx
    simp at hv hx
    subst hv hx
    exact ⟨rfl, get_den hI.gok hI.slots y.2⟩
theorem taken_whole {t : Tmp} : s.taken (some (t, none)) = s.room t := rfl
theorem croom_ok (x : Operand) : RoomsOK P F w (a.eval x) (get s.slot x) (croom x) (fun _ => none) := by
  intro i
  unfold croom
  split
  · cases i with
    | zero => exact ⟨rfl, [], none, rfl, rfl⟩
    | succ i => simp [RoomAt]
  · simp [RoomAt]
theorem comp_zero_list {v : Value} {es : List D} (h : Den0 F w v (.list es)) : comp v 0 = some v := by
  cases h; rfl
/-- The right to append: what 'own' and 'full' say of the list itself. -/
theorem own_of_rooms {v : Value} {x : D} {r : List Room} {cl : Nat → Option Nat} {e : TypeId} (h : RoomsOK P F w v x r cl) (hr : r = [.full] ∨ r = [.own e]) {es : List D} (hx : x = .list es) (hv : ∃ a n c, v = .slice a n c) : Own P F w e v es.length (cl 0) := by
  obtain ⟨a0, n0, c0, rfl⟩ := hv
  subst hx
  have h0 := h 0
  rcases hr with rfl | rfl
  · obtain ⟨h1, es', a', h2, h3⟩ := h0
    injection h3 with h3
    injection h3 with h3
    injection h2 with h2
    subst h3
    rw [h1, h2]
    exact ⟨a', rfl⟩
  · obtain ⟨u, es', h1, h2, h3⟩ := h0
    injection h2 with h2
    injection h2 with h2
    injection h1 with h1
    subst h2 h1
    exact h3
theorem Den0.slice_ {v : Value} {es : List D} (h : Den0 F w v (.list es)) : ∃ a n c, v = .slice a n c := by
  cases h with | list a n c => exact ⟨a, n, c, rfl⟩
theorem run_invoke_func (hP : Fine P) {f : FuncId} (h : ∃ fn, P.funcs[f]? = some fn ∧ fn.body.isSome = true) (args captured : Array Value) : (invoke (.fn (.func f) captured) args).run P w = .ok (.enter f (args ++ captured)) w := by
  obtain ⟨fn, hf, hb⟩ := h
  have hnm := hP.names f fn hf
  have hb' : fn.body.isNone = false := by cases hfb : fn.body <;> simp_all
  simp only [invoke, callFunc, Sem.run_bind]
  simp [program, Sem.run, hf, hnm, hb', Result.andThen]
end
end Go.Av
