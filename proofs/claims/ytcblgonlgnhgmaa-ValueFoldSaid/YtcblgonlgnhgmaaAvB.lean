/- Steps that make a variable, write to one, or hand one to a callee, against the model. Over any program. -/
import Derived.Test.YtcblgonlgnhgmaaAvQ
set_option linter.unusedVariables false
set_option linter.unusedSimpArgs false
set_option linter.unusedSectionVars false
namespace Go.Av
open Go.RowKit
variable [Gs]

section
variable {P : Program} {n : Nat} {S0 : Gv} {F0 : Nat → Nat → Prop} {w0 : World} {ν : Nat → Nat → Nat} {F : Nat → Nat → Prop} {cls : Nat → Nat → Option Nat} {s : St} {a : Act} {w : World}
variable {K : Act → World → Prop} {Q : Exit → Act → World → Prop} {o : Oper} {call : Call} {E : List Tmp}

theorem run_store_row (g o : Nat) (t : TypeId) (fr : Nat × Nat) : ∀ (vs : List Value) (i : Nat) (cur : Array Value) (w : World), w.heap[g]? = some (.cells cur t fr) → (fr = (0, 0) ∨ cur.size ≤ fr.1) → o + i + vs.length ≤ cur.size → (∀ v ∈ vs, v.oneCell' = true) →
    (storeCells ⟨g, o, none⟩ vs i).run P w = .ok () (w.setRow g (cur.toList.take (o + i) ++ vs ++ cur.toList.drop (o + i + vs.length)).toArray)
  | [], i, cur, w, hg, _, _, _ => by
    simp only [storeCells, List.append_nil, List.length_nil, Nat.add_zero, List.take_append_drop, Array.toArray_toList]
    rw [setRow_self w g cur t fr hg]
    rfl
  | v :: rest, i, cur, w, hg, hf, hl, h1 => by
    have hi : o + i < cur.size := by simp at hl; omega
    have hcell : w.cell? ⟨g, o + i, none⟩ = some cur[o + i] := by simp [World.cell?, hg, hi]
    have hfro : w.frozen? ⟨g, o + i, none⟩ = false := by
      obtain ⟨lo, hi'⟩ := fr
      simp only [World.frozen?, hg, Bool.and_eq_false_iff, decide_eq_false_iff_not]
      rcases hf with hf | hf
      · injection hf with h2 h3
        right
        omega
      · left
        simp only at hf
        omega
    have hst : (store ((⟨g, o, none⟩ : Addr).add i) v).run P w = .ok () (w.setRow g (cur.setIfInBounds (o + i) v)) := by
      rw [addr_add, run_store P w _ v _ (h1 v (by simp)), hcell]
      simp [hfro, setCell_eq_setRow w g (o + i) cur t fr v hg]
    have ih := run_store_row g o t fr rest (i + 1) (cur.setIfInBounds (o + i) v) (w.setRow g (cur.setIfInBounds (o + i) v)) (setRow_heap w g cur _ t _ hg) (by simpa using hf) (by simp at hl ⊢; omega) (fun x hx => h1 x (by simp [hx]))
    simp only [storeCells, Sem.run_bind, hst, Result.andThen_ok, ih, setRow_setRow]
    congr 3
    have e := list_seg_step cur.toList (o + i) v rest (by simp at hl ⊢; omega)
    simpa [Array.toList_setIfInBounds, Nat.add_assoc] using e
theorem box_lt (hI : Inv P n S0 F0 w0 ν F cls s a w) {k : Nat} {bx : Bx} (hb : s.box k = some bx) : ν k bx.gen < w.heap.size := by
  obtain ⟨⟨vs, t, _, _, ⟨h1, _⟩, _⟩, _⟩ := hI.boxes k bx hb
  exact lt_of_heap h1
/-- A new variable. -/
theorem Inv.newBox (hI : Inv P n S0 F0 w0 ν F cls s a w) {k : Nat} (hk1 : k < 1000000) {cs : List Value} {cells : List D} {t : TypeId} (hl : cs.length = cells.length) (h1 : ∀ v ∈ cs, v.oneCell' = true)
    (hd : ∀ (i : Nat) (v : Value) (x : D), cs[i]? = some v → cells[i]? = some x → Den0 F w v x) :
    ∃ ν', Inv P n S0 F0 w0 ν' F cls { s.setBox k (some ⟨s.ctr, cells⟩) with ctr := s.ctr + 1 } a (w.alloc (.cells cs.toArray t)) ∧ ν' k s.ctr = w.heap.size := by
  have hE := ext_alloc0 (w := w) hI.lt (.cells cs.toArray t)
  refine ⟨fun k' g' => if k' = k ∧ g' = s.ctr then w.heap.size else ν k' g', ?_, by simp⟩
  have hnew : ∀ b o, F b o → F b o ∨ w.heap.size ≤ b ∨ (fun _ => False) b := fun b o h => .inl h
  have hw0 : w0.heap.size ≤ w.heap.size := hI.ext.size
  have hbox : ∀ k' bx, upd s.box k (some ⟨s.ctr, cells⟩) k' = some bx → (k' = k ∧ bx = ⟨s.ctr, cells⟩) ∨ (k' ≠ k ∧ s.box k' = some bx) := by
    intro k' bx h
    simp only [upd] at h
    by_cases hk : k' = k
    · rw [if_pos hk] at h
      injection h with h
      exact .inl ⟨hk, h.symm⟩
    · rw [if_neg hk] at h
      exact .inr ⟨hk, h⟩
  have hν : ∀ k' bx, k' ≠ k → (if k' = k ∧ bx = s.ctr then w.heap.size else ν k' bx) = ν k' bx := fun k' bx h => if_neg fun h' => h h'.1
  refine ⟨hI.ext.late hE (fun b h => h.elim), lt_alloc0 hI.lt _, hI.news, hI.size, hI.defers, ?_, ?_, hI.inj, ?_, ?_, ?_, ?_, ?_, hI.gok.ext hE⟩
  · intro j
    exact ((hI.slots j).ext hE).more (fun k' g hg => if_neg fun h => by omega) (Nat.le_succ _)
  · exact fun j i => (hI.rooms j i).ext hE hnew (fun _ _ h => h)
  · intro j i g k' bx h1 h2
    obtain ⟨hlt, _⟩ := hI.loc j i g h1
    rcases hbox k' bx h2 with ⟨rfl, rfl⟩ | ⟨hk, h2⟩
    · simp only [and_self, if_true]
      omega
    · simp only [hν k' bx.gen hk]
      exact hI.sep j i g k' bx h1 h2
  · intro j i g h
    obtain ⟨h1, h2⟩ := hI.loc j i g h
    exact ⟨Nat.lt_of_lt_of_le h1 hE.size, h2⟩
  · intro k' bx h2
    rcases hbox k' bx h2 with ⟨rfl, rfl⟩ | ⟨hk, h2⟩
    · simp only [and_self, if_true]
      refine ⟨⟨cs, t, [], (0, 0), ⟨by rw [List.append_nil]; exact heap_alloc_new w _, .inl rfl⟩, hl, h1, fun i v x hv hx => (hd i v x hv hx).ext hE, fun o hF => Nat.lt_irrefl _ (hI.lt _ _ hF)⟩, Nat.lt_succ_self _, .inr hw0⟩
    · simp only [hν k' bx.gen hk]
      obtain ⟨h3, h4, h5⟩ := hI.boxes k' bx h2
      exact ⟨h3.ext hE hnew (fun h => h), Nat.lt_succ_of_lt h4, h5⟩
  · intro k1 b1 k2 b2 h1 h2 he
    rcases hbox k1 b1 h1 with ⟨e1, f1⟩ | ⟨hk1, h1'⟩ <;> rcases hbox k2 b2 h2 with ⟨e2, f2⟩ | ⟨hk2, h2'⟩
    · rw [e1, e2]
    · simp only [e1, f1, and_self, if_true, hν k2 b2.gen hk2] at he
      have := box_lt hI h2'
      omega
    · simp only [e2, f2, and_self, if_true, hν k1 b1.gen hk1] at he
      have := box_lt hI h1'
      omega
    · simp only [hν k1 b1.gen hk1, hν k2 b2.gen hk2] at he
      exact hI.binj k1 b1 k2 b2 h1' h2' he
  · intro i hi
    obtain ⟨bx, h1, h2, h3⟩ := hI.given i hi
    have hne : pid i ≠ k := by unfold pid; omega
    refine ⟨bx, ?_, h2, ?_⟩
    · simp only [St.setBox, upd, if_neg hne]
      exact h1
    · simp only [hne, false_and, if_false]
      exact h3
/-- A variable's cells have turned. -/
theorem Inv.turn (hI : Inv P n S0 F0 w0 ν F cls s a w) {k : Nat} {bx : Bx} (hb : s.box k = some bx) {cells : List D} {F' : Nat → Nat → Prop} {w' : World} (hE : Ext (fun b => ν k bx.gen = b) F w F' w') (hlt : Lt F' w')
    (hnew : ∀ b o, F' b o → F b o ∨ w.heap.size ≤ b) (hB : BoxAt F' w' (ν k bx.gen) cells) : Inv P n S0 F0 w0 ν F' cls (s.setBox k (some ⟨bx.gen, cells⟩)) a w' := by
  have hnew' : ∀ b o, F' b o → F b o ∨ w.heap.size ≤ b ∨ (fun b => ν k bx.gen = b) b := fun b o h => (hnew b o h).imp id .inl
  have hw0 : w0.heap.size ≤ w.heap.size := hI.ext.size
  have hbox : ∀ k' b', upd s.box k (some ⟨bx.gen, cells⟩) k' = some b' → (k' = k ∧ b' = ⟨bx.gen, cells⟩) ∨ (k' ≠ k ∧ s.box k' = some b') := by
    intro k' b' h
    simp only [upd] at h
    by_cases hk : k' = k
    · rw [if_pos hk] at h
      injection h with h
      exact .inl ⟨hk, h.symm⟩
    · rw [if_neg hk] at h
      exact .inr ⟨hk, h⟩
  obtain ⟨_, hg, hS⟩ := hI.boxes k bx hb
  refine ⟨?_, hlt, ?_, hI.size, hI.defers, fun j => (hI.slots j).ext hE, fun j i => (hI.rooms j i).ext hE hnew' (fun g hg h => hI.sep j i g k bx hg hb h), hI.inj, ?_, ?_, ?_, ?_, ?_, hI.gok.ext hE⟩
  · refine hI.ext.late hE fun b h => ?_
    subst h
    exact hS
  · intro b o h
    rcases hnew b o h with h | h
    · exact hI.news b o h
    · exact .inr (by omega)
  · intro j i g k' b' h1 h2
    rcases hbox k' b' h2 with ⟨rfl, rfl⟩ | ⟨_, h2⟩
    · exact hI.sep j i g k' bx h1 hb
    · exact hI.sep j i g k' b' h1 h2
  · intro j i g h
    obtain ⟨h1, h2⟩ := hI.loc j i g h
    exact ⟨Nat.lt_of_lt_of_le h1 hE.size, h2⟩
  · intro k' b' h2
    rcases hbox k' b' h2 with ⟨rfl, rfl⟩ | ⟨hk, h2⟩
    · exact ⟨hB, hg, hS⟩
    · obtain ⟨h3, h4, h5⟩ := hI.boxes k' b' h2
      exact ⟨h3.ext hE hnew' (fun h => hk (hI.binj k bx k' b' hb h2 h).symm), h4, h5⟩
  · intro k1 b1 k2 b2 h1 h2 he
    rcases hbox k1 b1 h1 with ⟨e1, f1⟩ | ⟨hk1, h1'⟩ <;> rcases hbox k2 b2 h2 with ⟨e2, f2⟩ | ⟨hk2, h2'⟩
    · rw [e1, e2]
    · subst e1 f1
      exact hI.binj k1 bx k2 b2 hb h2' he
    · subst e2 f2
      exact hI.binj k1 b1 k2 bx h1' hb he
    · exact hI.binj k1 b1 k2 b2 h1' h2' he
  · intro i hi
    obtain ⟨b0, h1, h2, h3⟩ := hI.given i hi
    by_cases hk : pid i = k
    · subst hk
      rw [hb] at h1
      injection h1 with h1
      subst h1
      exact ⟨_, if_pos rfl, h2, h3⟩
    · exact ⟨b0, by simp only [St.setBox, upd, if_neg hk]; exact h1, h2, h3⟩
theorem Inv.put0 (hI : Inv P n S0 F0 w0 ν F cls s a w) {dst : Option Tmp} (hin : ∀ k, dst = some k → k < n) {v : Value} {d : D} (hv : Den s.ctr ν F w v d) : ∃ cls', Inv P n S0 F0 w0 ν F cls' (s.put dst d []) (a.put dst v) w :=
  hI.put (T := fun _ => False) hin (Ext.refl _ _ _) hI.lt (fun b o h => .inl h) hv (rooms_nil (P := P) (F := F) (w := w)) (fun b h => h.elim) (fun _ _ _ _ h => h) (fun _ _ _ h => h) (fun i g h => by cases h) (fun i i' g h => by cases h)

/-- The frame stands for the evaluator's state, whatever its variables' blocks and claims. -/
def Rep (P : Program) (n : Nat) (S0 : Gv) (F0 : Nat → Nat → Prop) (w0 : World) (s : St) (a : Act) (w : World) : Prop := ∃ ν F cls, Inv P n S0 F0 w0 ν F cls s a w

theorem stepBox_sound (hI : Inv P n S0 F0 w0 ν F cls s a w) {s' : St} (hin : ∀ k, o.dst = some k → k < n) (h : stepBox P o s = some s') (hK : ∀ a' w', Rep P n S0 F0 w0 s' a' w' → K a' w') : o.wp P a w K Q := by
  obtain ⟨dst, op, ty, pos, after, guard⟩ := o
  have G := fun x => get_den hI.gok hI.slots (a := a) x
  cases op with
  | alloc t =>
    simp only [stepBox] at h
    cases dst with
    | none => simp at h
    | some k =>
    split at h
    · rename_i k' z e0 hz
      injection e0 with e0
      subst e0
      split at h
      · rename_i hleaf
        obtain ⟨hleaf, hk1⟩ := hleaf
        injection h with h
        subst h
        unfold zeroOf at hz
        obtain ⟨it, hit, hz⟩ := Option.bind_eq_some_iff.1 hz
        obtain ⟨zv, hz0, hz⟩ := Option.bind_eq_some_iff.1 hz
        obtain ⟨z1, z2, z3⟩ := zero_den (c := s.ctr) (ν := ν) (F := F) (w := w) hz
        rw [List.all_eq_true] at hleaf
        obtain ⟨ν', hI', hν⟩ := hI.newBox (k := k) hk1 (t := t) z1 z2 (fun i v x hv hx => (z3 i v x hv hx).leaf_ (hleaf x (List.mem_of_getElem? hx)))
        obtain ⟨cls', hI''⟩ := hI'.put0 hin (dst := some k) (v := .pointer (some ⟨w.heap.size, 0, none⟩)) (d := .ptr k s.ctr 0) (by rw [← hν]; exact .ptr k s.ctr 0 (Nat.lt_succ_self _))
        have hrun : (execOp a.eval ⟨some k, .alloc t, ty, pos, after, guard⟩).run P w = .ok (.value (.pointer (some ⟨w.heap.size, 0, none⟩))) (w.alloc (.cells zv.cells.toList.toArray t)) := by
          refine exec_v ?_
          simp [Instr.alloc, zeroValue, typeInfo, hit, hz0, newVar, newRow]
        unfold Oper.wp
        rw [hrun, Oper.upon_value]
        exact hK _ _ ⟨_, _, _, hI''⟩
      · cases h
    · cases h
  | box t x =>
    simp only [stepBox] at h
    cases dst with
    | none => simp at h
    | some k =>
    split at h
    · rename_i k' m e0 hm
      injection e0 with e0
      subst e0
      split at h
      · rename_i hc
        obtain ⟨hc1, hc2, hk1⟩ := hc
        injection h with h
        subst h
        obtain ⟨z1, z2, z3⟩ := ((G x).pureB_ hc2).cells
        obtain ⟨ν', hI', hν⟩ := hI.newBox (k := k) hk1 (t := t) z1 z2 z3
        obtain ⟨cls', hI''⟩ := hI'.put0 hin (dst := some k) (v := .pointer (some ⟨w.heap.size, 0, none⟩)) (d := .ptr k s.ctr 0) (by rw [← hν]; exact .ptr k s.ctr 0 (Nat.lt_succ_self _))
        have hrun : (execOp a.eval ⟨some k, .box t x, ty, pos, after, guard⟩).run P w = .ok (.value (.pointer (some ⟨w.heap.size, 0, none⟩))) (w.alloc (.cells (a.eval x).cells.toList.toArray t)) := by
          refine exec_v ?_
          simp [Instr.box, newVar, newRow]
        unfold Oper.wp
        rw [hrun, Oper.upon_value]
        exact hK _ _ ⟨_, _, _, hI''⟩
      · cases h
    · cases h
  | store t x y =>
    simp only [stepBox] at h
    split at h
    · rename_i k g off m hx hm
      split at h
      · rename_i bx hb
        split at h
        · rename_i hc
          obtain ⟨rfl, hc2, hc3, hc4⟩ := hc
          injection h with h
          subst h
          have hg := G x
          rw [hx] at hg
          obtain ⟨hv, _⟩ := hg.ptr_
          obtain ⟨z1, z2, z3⟩ := ((G y).pureB_ hc4).cells
          obtain ⟨⟨vs, te, rest, fr, ⟨h1, h0⟩, h2, h3, h4, h5⟩, _⟩ := hI.boxes k bx hb
          have hfit0 : off + (a.eval y).cells.toList.length ≤ vs.length := by omega
          have hfit : off + (a.eval y).cells.toList.length ≤ (vs ++ rest).toArray.size := by simp only [List.size_toArray, List.length_append]; omega
          have hst := run_store_row (P := P) (ν k bx.gen) off te fr (a.eval y).cells.toList 0 (vs ++ rest).toArray w h1 (by simpa using h0) (by simpa using hfit) z2
          simp only [Nat.add_zero] at hst
          have hsplit : (vs ++ rest).take off ++ (a.eval y).cells.toList ++ (vs ++ rest).drop (off + (a.eval y).cells.toList.length) = (vs.take off ++ (a.eval y).cells.toList ++ vs.drop (off + (a.eval y).cells.toList.length)) ++ rest := by
            rw [List.take_append_of_le_length (by omega), List.drop_append_of_le_length (by omega)]
            simp
          rw [hsplit] at hst
          have hlen0 : (vs.take off ++ (a.eval y).cells.toList ++ vs.drop (off + (a.eval y).cells.toList.length)).length = vs.length := by
            simp only [List.length_append, List.length_take, List.length_drop]
            omega
          have hsz : (a.eval y).cells.size = m := by rw [← hc2, ← z1]; simp
          have hrun : (execOp a.eval ⟨dst, .store t x y, ty, pos, after, guard⟩).run P w = .ok .skip (w.setRow (ν k bx.gen) ((vs.take off ++ (a.eval y).cells.toList ++ vs.drop (off + (a.eval y).cells.toList.length)) ++ rest).toArray) := by
            simp only [execOp, hv, Instr.storeAt, Instr.sureAddr, storeVar, Sem.run_bind, Sem.run_pure, Result.andThen_ok, run_sizeOf_ hm]
            rw [if_neg (by simp [hsz])]
            rw [hst]
            rfl
          have hpw := pointwise_laid (off := off) h2 h4 z1 z3
          rw [hc2] at hpw
          have hheap := setRow_heap w (ν k bx.gen) (vs ++ rest).toArray ((vs.take off ++ (a.eval y).cells.toList ++ vs.drop (off + (a.eval y).cells.toList.length)) ++ rest).toArray te fr h1
          have hE : Ext (fun b => ν k bx.gen = b) F w F (w.setRow (ν k bx.gen) ((vs.take off ++ (a.eval y).cells.toList ++ vs.drop (off + (a.eval y).cells.toList.length)) ++ rest).toArray) := by
            refine ⟨rfl, rfl, rfl, by simp [World.setRow], fun b _ hne => setRow_other w _ b _ (fun e => hne e.symm), fun b o h => h, fun b o hF => ?_⟩
            exact World.cell?_of_block (a := ⟨b, o, none⟩) (setRow_other w _ b _ (fun e => by subst e; exact h5 o hF))
          have hI' := hI.turn hb (cells := bx.cells.take off ++ dcells (get s.slot y) ++ bx.cells.drop (off + m)) hE (by
            intro b o hF
            have := hI.lt b o hF
            simpa [World.setRow] using this) (fun b o h => .inl h) ⟨_, te, rest, fr, ⟨hheap, h0.imp id fun h => by rw [List.length_append, hlen0, ← List.length_append]; exact h⟩, hpw.1, by
              intro v hv
              simp only [List.mem_append] at hv
              rcases hv with (hv | hv) | hv
              · exact h3 v (List.mem_of_mem_take hv)
              · exact z2 v hv
              · exact h3 v (List.mem_of_mem_drop hv), fun i v x hv hx => (hpw.2 i v x hv hx).ext hE, h5⟩
          obtain ⟨cls', hI''⟩ := hI'.put0 hin (dst := dst) (v := undef) (d := .tuple []) (.tuple [] [] rfl (fun i v x hv => by simp at hv))
          unfold Oper.wp
          rw [hrun, Oper.upon_skip]
          exact hK _ _ ⟨_, _, _, hI''⟩
        · cases h
      · cases h
    · cases h
  | _ => simp [stepBox] at h

theorem stepPtr_sound (hP : Fine P) (hcall : CallOK P call) (hI : Inv P n S0 F0 w0 ν F cls s a w) {s' : St} (hin : ∀ k, o.dst = some k → k < n) (h : stepPtr call o s = some s') (hK : ∀ a' w', Rep P n S0 F0 w0 s' a' w' → K a' w') : o.wp P a w K Q := by
  obtain ⟨dst, op, ty, pos, after, guard⟩ := o
  have G := fun x => get_den hI.gok hI.slots (a := a) x
  cases op with
  | call cc =>
    obtain ⟨callee, args, ats⟩ := cc
    simp only [stepPtr] at h
    split at h
    · rename_i g k gn off rest hargs
      split at h
      · rename_i bx hb
        split at h
        · rename_i hc
          obtain ⟨rfl, hpure⟩ := hc
          split at h
          · rename_i d r b' hcal
            injection h with h
            subst h
            obtain ⟨hfn, hcalls⟩ := hcall g _ _ _ _ _ hcal
            obtain ⟨m1, m2⟩ := map_den hI args.toList
            rw [hargs] at m1 m2
            obtain ⟨hB, hgc, hS⟩ := hI.boxes k bx hb
            have hC := hcalls (args.toList.map a.eval) w F (fun _ => ν k bx.gen) (by simpa using m1) (fun i v x hv hx => by
              cases i with
              | zero =>
                simp only [List.getElem?_cons_zero, Option.some.injEq] at hx
                subst hx
                have := (m2 0 v _ hv rfl).ptr_.1
                subst this
                exact .ptr (pid 0) 0 off (by decide)
              | succ i =>
                have hx' : rest[i]? = some x := hx
                exact .pure _ _ ((m2 (i + 1) v x hv hx').pureB_ (by
                  rw [List.all_eq_true] at hpure
                  exact hpure x (List.mem_of_getElem? hx')))) (fun i bx' h => by
                    cases i with
                    | zero => simp at h; subst h; exact ⟨hB, rfl⟩
                    | succ i => simp at h) (fun i j hi hj _ => by simp at hi hj; omega) hI.lt
            have hexec : (execOp a.eval ⟨dst, .call ⟨.value (.func g), args, ats⟩, ty, pos, after, guard⟩).run P w = .ok (.enter g (args.toList.map a.eval).toArray) w := by
              simp only [execOp, resolve, Act.eval, Deferred.ofValue, Sem.run_bind, Sem.run_pure, Result.andThen_ok]
              rw [run_invoke_func hP hfn]
              congr 2
              apply Array.ext'
              simp
            unfold Oper.wp
            rw [hexec, Oper.upon_enter]
            refine (hC hI.gok).mono ?_
            rintro e w' ⟨v, F', ncl, rfl, hE, hlt, hnew, hval, hn1, hn2, hbx⟩
            obtain ⟨_, hd, hr⟩ := hval.resolve_right (fun h => by simp at h)
            have hE' : Ext (fun b => ν k bx.gen = b) F w F' w' := hE.weaken fun b _ ⟨i, _, hi⟩ => hi
            have hI' := hI.turn hb (cells := b'.cells) hE' hlt hnew (hbx 0 b' (by simp) rfl)
            obtain ⟨cls', hI''⟩ := hI'.put (T := fun _ => False) hin (Ext.refl _ F' w') hlt (fun b o h => .inl h) (hd _ _) hr (fun b h => h.elim) (fun _ _ _ _ h => h) (fun _ _ _ h => h) (fun i g h => ⟨(hn1 i g h).2, Nat.le_trans hI.ext.size (hn1 i g h).1, fun j' i' h' => by have := (hI.loc _ _ _ h').1; have := (hn1 i g h).1; omega, fun k' b2 h' he => by
              have h3 := (hn1 i g h).1
              simp only [St.setBox, upd] at h'
              split at h'
              · injection h' with h'
                subst h'
                rename_i hk
                subst hk
                have := box_lt hI hb
                simp only at he
                omega
              · have := box_lt hI h'
                omega⟩) hn2
            exact hK _ _ ⟨_, _, _, hI''⟩
          · cases h
        · cases h
      · cases h
    · cases h
  | _ => simp [stepPtr] at h
/-- A variable that a callee made becomes one's own. -/
theorem Inv.adopt (hI : Inv P n S0 F0 w0 ν F cls s a w) {k : Nat} (hk1 : k < 1000000) {cells : List D} {F' : Nat → Nat → Prop} {w' : World} {g : Nat} (hE : Ext (fun _ => False) F w F' w') (hlt : Lt F' w') (hnew : ∀ b o, F' b o → F b o ∨ w.heap.size ≤ b)
    (hg : w.heap.size ≤ g) (hB : BoxAt F' w' g cells) : ∃ ν', Inv P n S0 F0 w0 ν' F' cls { s.setBox k (some ⟨s.ctr, cells⟩) with ctr := s.ctr + 1 } a w' ∧ ν' k s.ctr = g := by
  refine ⟨fun k' g' => if k' = k ∧ g' = s.ctr then g else ν k' g', ?_, by simp⟩
  have hnew' : ∀ b o, F' b o → F b o ∨ w.heap.size ≤ b ∨ (fun _ => False) b := fun b o h => (hnew b o h).imp id .inl
  have hw0 : w0.heap.size ≤ w.heap.size := hI.ext.size
  have hbox : ∀ k' bx, upd s.box k (some ⟨s.ctr, cells⟩) k' = some bx → (k' = k ∧ bx = ⟨s.ctr, cells⟩) ∨ (k' ≠ k ∧ s.box k' = some bx) := by
    intro k' bx h
    simp only [upd] at h
    by_cases hk : k' = k
    · rw [if_pos hk] at h
      injection h with h
      exact .inl ⟨hk, h.symm⟩
    · rw [if_neg hk] at h
      exact .inr ⟨hk, h⟩
  have hν : ∀ k' bx, k' ≠ k → (if k' = k ∧ bx = s.ctr then g else ν k' bx) = ν k' bx := fun k' bx h => if_neg fun h' => h h'.1
  refine ⟨hI.ext.late hE (fun b h => h.elim), hlt, ?_, hI.size, hI.defers, ?_, ?_, hI.inj, ?_, ?_, ?_, ?_, ?_, hI.gok.ext hE⟩
  · intro b o h
    rcases hnew b o h with h | h
    · exact hI.news b o h
    · exact .inr (by omega)
  · intro j
    exact ((hI.slots j).ext hE).more (fun k' g hg => if_neg fun h => by omega) (Nat.le_succ _)
  · exact fun j i => (hI.rooms j i).ext hE hnew' (fun _ _ h => h)
  · intro j i g' k' bx h1 h2
    obtain ⟨hlt', _⟩ := hI.loc j i g' h1
    rcases hbox k' bx h2 with ⟨rfl, rfl⟩ | ⟨hk, h2⟩
    · simp only [and_self, if_true]
      omega
    · simp only [hν k' bx.gen hk]
      exact hI.sep j i g' k' bx h1 h2
  · intro j i g h
    obtain ⟨h1, h2⟩ := hI.loc j i g h
    exact ⟨Nat.lt_of_lt_of_le h1 hE.size, h2⟩
  · intro k' bx h2
    rcases hbox k' bx h2 with ⟨rfl, rfl⟩ | ⟨hk, h2⟩
    · simp only [and_self, if_true]
      exact ⟨hB, Nat.lt_succ_self _, .inr (by omega)⟩
    · simp only [hν k' bx.gen hk]
      obtain ⟨h3, h4, h5⟩ := hI.boxes k' bx h2
      exact ⟨h3.ext hE hnew' (fun h => h), Nat.lt_succ_of_lt h4, h5⟩
  · intro k1 b1 k2 b2 h1 h2 he
    rcases hbox k1 b1 h1 with ⟨e1, f1⟩ | ⟨hk1, h1'⟩ <;> rcases hbox k2 b2 h2 with ⟨e2, f2⟩ | ⟨hk2, h2'⟩
    · rw [e1, e2]
    · simp only [e1, f1, and_self, if_true, hν k2 b2.gen hk2] at he
      have := box_lt hI h2'
      omega
    · simp only [e2, f2, and_self, if_true, hν k1 b1.gen hk1] at he
      have := box_lt hI h1'
      omega
    · simp only [hν k1 b1.gen hk1, hν k2 b2.gen hk2] at he
      exact hI.binj k1 b1 k2 b2 h1' h2' he
  · intro i hi
    obtain ⟨bx, h1, h2, h3⟩ := hI.given i hi
    have hne : pid i ≠ k := by unfold pid; omega
    refine ⟨bx, ?_, h2, ?_⟩
    · simp only [St.setBox, upd, if_neg hne]
      exact h1
    · simp only [hne, false_and, if_false]
      exact h3
theorem stepNew_sound (hP : Fine P) (hcall : CallOK P call) (hI : Inv P n S0 F0 w0 ν F cls s a w) {s' : St} (hin : ∀ k, o.dst = some k → k < n) (h : stepNew call o s = some s') (hK : ∀ a' w', Rep P n S0 F0 w0 s' a' w' → K a' w') : o.wp P a w K Q := by
  obtain ⟨dst, op, ty, pos, after, guard⟩ := o
  have G := fun x => get_den hI.gok hI.slots (a := a) x
  cases op with
  | call cc =>
    obtain ⟨callee, args, ats⟩ := cc
    simp only [stepNew] at h
    split at h
    · rename_i f
      split at h
      · rename_i g first captured hf
        split at h
        · rename_i hpure
          unfold newR at h
          split at h
          · rename_i k0 g0 off0 r0 b hcal
            split at h
            · rename_i t hdst
              simp only at hdst
              subst hdst
              split at h
              · rename_i htl
                injection h with h
                subst h
                obtain ⟨m1, m2⟩ := map_den hI args.toList
                have hgf := G f
                rw [hf] at hgf
                obtain ⟨fs, cs, hfv, l1, l2, d1, d2⟩ := hgf.func_
                obtain ⟨hfn, hcalls⟩ := hcall g _ _ _ _ _ hcal
                have hlen : (fs ++ args.toList.map a.eval ++ cs).length = (first ++ args.toList.map (get s.slot) ++ captured).length := by simp [l1, l2]
                have hden : ∀ (i : Nat) (v : Value) (x : D), (fs ++ args.toList.map a.eval ++ cs)[i]? = some v → (first ++ args.toList.map (get s.slot) ++ captured)[i]? = some x → Den s.ctr ν F w v x := by
                  intro i v x hv hx
                  by_cases h1 : i < (fs ++ args.toList.map a.eval).length
                  · rw [List.getElem?_append_left h1] at hv
                    rw [List.getElem?_append_left (by simp at h1 ⊢; omega)] at hx
                    by_cases h2 : i < fs.length
                    · rw [List.getElem?_append_left h2] at hv
                      rw [List.getElem?_append_left (by omega)] at hx
                      exact d1 _ _ _ hv hx
                    · rw [List.getElem?_append_right (by omega)] at hv hx
                      rw [← l1] at hx
                      exact m2 _ _ _ hv hx
                  · have e1 : (first ++ args.toList.map (get s.slot)).length = (fs ++ args.toList.map a.eval).length := by simp [l1]
                    rw [List.getElem?_append_right (by omega)] at hv hx
                    rw [e1] at hx
                    exact d2 _ _ _ hv hx
                have hC := hcalls (fs ++ args.toList.map a.eval ++ cs) w F (fun _ => 0) hlen (fun i v x hv hx => .pure _ _ ((hden i v x hv hx).pureB_ (by
                  rw [List.all_eq_true] at hpure
                  exact hpure x (List.mem_of_getElem? hx)))) (fun i bx h => by simp at h) (fun i j h => by simp at h) hI.lt
                have hexec : (execOp a.eval ⟨some t, .call ⟨.value f, args, ats⟩, ty, pos, after, guard⟩).run P w = .ok (.enter g (fs ++ args.toList.map a.eval ++ cs).toArray) w := by
                  simp only [execOp, resolve, hfv, Deferred.ofValue, Sem.run_bind, Sem.run_pure, Result.andThen_ok]
                  rw [run_invoke_func hP hfn]
                  congr 2
                  apply Array.ext'
                  simp
                unfold Oper.wp
                rw [hexec, Oper.upon_enter]
                refine (hC hI.gok).mono ?_
                rintro e w' ⟨v, F', ncl, rfl, hE, hlt, hnew, hval, hn1, hn2, _⟩
                obtain ⟨_, gg, rfl, hg1, hg2, hB⟩ := hval.resolve_left (fun h => by simp at h)
                have hE' : Ext (fun _ => False) F w F' w' := hE.weaken fun b _ ⟨i, hi, _⟩ => by simp at hi
                obtain ⟨ν', hI', hν⟩ := hI.adopt htl hE' hlt hnew hg1 (hB b (by simp))
                obtain ⟨cls', hI''⟩ := hI'.put0 hin (dst := some t) (v := .pointer (some ⟨gg, 0, none⟩)) (d := .ptr t s.ctr 0) (by rw [← hν]; exact .ptr t s.ctr 0 (Nat.lt_succ_self _))
                exact hK _ _ ⟨_, _, _, hI''⟩
              · cases h
            · cases h
          · cases h
        · cases h
      · cases h
    · cases h
  | _ => simp [stepNew] at h
/-! ### Rows that are written to -/
theorem rep_at {α : Type} (zs : List α) : ∀ (m j : Nat), j < m * zs.length → ((List.replicate m zs).flatten)[j]? = zs[j % zs.length]?
  | 0, j, h => by simp at h
  | m + 1, j, h => by
    rw [List.replicate_succ, List.flatten_cons]
    have h0 : 0 < zs.length := by
      apply Nat.pos_of_ne_zero
      intro e
      rw [e] at h
      simp at h
    by_cases hj : j < zs.length
    · rw [List.getElem?_append_left hj, Nat.mod_eq_of_lt hj]
    · rw [List.getElem?_append_right (by omega), rep_at zs m (j - zs.length) (by rw [Nat.succ_mul] at h; omega)]
      rw [Nat.mod_eq_sub_mod (Nat.le_of_not_lt hj)]
theorem rep_len {α : Type} (zs : List α) (m : Nat) : ((List.replicate m zs).flatten).length = m * zs.length := by simp
/-- A row of one's own. -/
theorem adoptRow (hI : Inv P n S0 F0 w0 ν F cls s a w) {k m sz cap : Nat} {ag : Bool} (hin : k < n) (hk1 : k < 1000000) {cells : List D} {w' : World} (hE : Ext (fun _ => False) F w F w') (hlt : Lt F w') (hB : BoxAt F w' w.heap.size cells) (hm : m ≤ cap) :
    Rep P n S0 F0 w0 (madeRow s k cells m sz ag) (a.put (some k) (.slice (some ⟨w.heap.size, 0, none⟩) m cap)) w' := by
  obtain ⟨ν', hI', hν⟩ := hI.adopt hk1 hE hlt (fun b o h => .inl h) (Nat.le_refl _) hB
  obtain ⟨cls', hI''⟩ := hI'.put0 (dst := some k) (fun k' e => by injection e with e; rw [← e]; exact hin) (v := .slice (some ⟨w.heap.size, 0, none⟩) m cap) (d := .row k s.ctr m sz ag) (by rw [← hν]; exact .row k s.ctr m cap sz ag (Nat.lt_succ_self _) hm)
  exact ⟨_, _, _, hI''⟩
theorem stepRow_sound (hR : Rep P n S0 F0 w0 s a w) {ops : Array Oper} {s' : St} (h : stepRow P n o s = some s') (hK : ∀ a' w', Rep P n S0 F0 w0 s' a' w' → K a' w') :
    if Region.wanted o (yielded ops a.tmps) then o.wp P a w K Q else K (a.put o.dst undef) w := by
  obtain ⟨ν, F, cls, hI⟩ := hR
  obtain ⟨dst, op, ty, pos, after, guard⟩ := o
  have G := fun x => get_den hI.gok hI.slots (a := a) x
  simp only [stepRow] at h
  split at h
  · rename_i k
    rw [if_pos (show Region.wanted ⟨some k, op, ty, pos, after, none⟩ (yielded ops a.tmps) = true from rfl)]
    split at h
    · rename_i hk
      obtain ⟨hin, hk1⟩ := hk
      cases op with
      | convert src dt x =>
        simp only at h
        split at h
        · rename_i e es hd hc
          injection h with h
          subst h
          unfold dconv at hc
          split at hc
          · cases hc
          · cases hc
          · split at hc
            · obtain ⟨l, _, h3⟩ := Option.map_eq_some_iff.1 hc
              cases h3
            · cases hc
          · rename_i u e' l hs hd' hx
            split at hc
            · rename_i he
              injection hc with hc
              injection hc with hc
              subst hc
              have hgx := G x
              rw [hx] at hgx
              have hv := hgx.str_
              have hsize : (⟨l.toArray⟩ : ByteArray).size = l.length := by simp [ByteArray.size]
              have hrun : (execOp a.eval ⟨some k, .convert src dt x, ty, pos, after, none⟩).run P w = .ok (.value (.slice (some ⟨w.heap.size, 0, none⟩) l.length (grownCap w l.length 0 e'))) (Lib.bytesWorld w e' ⟨l.toArray⟩) := by
                refine exec_v ?_
                rw [hv, Lib.run_convert_string_bytes w src dt e' ⟨l.toArray⟩ hs hd' he, hsize]
              have hE : Ext (fun _ => False) F w F (Lib.bytesWorld w e' ⟨l.toArray⟩) := ⟨rfl, rfl, rfl, by rw [Lib.bytesWorld_size]; omega, fun b hb _ => Lib.bytesWorld_at_old w e' _ b hb, fun b o h => h, fun b o h => Lib.bytesWorld_old w e' _ ⟨b, o, none⟩ (hI.lt b o h)⟩
              have hlt' : Lt F (Lib.bytesWorld w e' ⟨l.toArray⟩) := fun b o h => by
                have := hI.lt b o h
                rw [Lib.bytesWorld_size]
                omega
              unfold Oper.wp
              rw [hrun, Oper.upon_value]
              refine hK _ _ ?_
              rw [show (l.map fun b => D.int .u8 b.toNat).length = l.length from by simp]
              refine adoptRow hI hin hk1 hE hlt' ?_ (grownCap_ge w l.length 0 e')
              have hnew := Lib.bytesWorld_at_new w e' ⟨l.toArray⟩
              have hcells : ∀ j, j < l.length → (Lib.bytesCells w e' ⟨l.toArray⟩)[j]? = some (.int .u8 (l.getD j 0).toNat) := fun j hj => by
                have h1 := Lib.bytesWorld_cell w e' ⟨l.toArray⟩ j (by rw [hsize]; exact hj)
                rw [cell_of_row _ _ _ _ _ _ hnew] at h1
                simpa using h1
              have htake : (Lib.bytesCells w e' ⟨l.toArray⟩).toList.take l.length = l.map fun b => Value.int .u8 b.toNat := by
                apply List.ext_getElem?
                intro j
                by_cases hj : j < l.length
                · rw [List.getElem?_take, if_pos hj, Array.getElem?_toList, hcells j hj, List.getElem?_map, List.getElem?_eq_getElem hj]
                  simp [List.getD, hj]
                · rw [List.getElem?_take, if_neg hj, List.getElem?_eq_none (by simp; omega)]
              refine ⟨l.map fun b => Value.int .u8 b.toNat, e', (Lib.bytesCells w e' ⟨l.toArray⟩).toList.drop l.length, ((Lib.bytesCells w e' ⟨l.toArray⟩).size, (Lib.bytesCells w e' ⟨l.toArray⟩).size + 1), ⟨?_, .inr ?_⟩, by simp, ?_, ?_, ?_⟩
              · rw [← htake, List.take_append_drop, Array.toArray_toList]
                exact hnew
              · rw [← htake, List.take_append_drop]
                simp
              · intro v hv
                obtain ⟨b, _, rfl⟩ := List.mem_map.1 hv
                rfl
              · intro i v x hv hx
                rw [List.getElem?_map] at hv hx
                cases hl : l[i]? with
                | none => rw [hl] at hv; cases hv
                | some b =>
                  rw [hl] at hv hx
                  simp at hv hx
                  subst hv hx
                  exact .int _ _
              · intro o hF
                exact Nat.lt_irrefl _ (hI.lt _ _ hF)
            · cases hc
          · cases hc
        · cases h
      | makeSlice t l c =>
        simp only at h
        split at h
        · rename_i e kl m kc m' he hl hc
          have ht := elem_of he
          split at h
          · rename_i i z ag hi hz hag
            split at h
            · rename_i hb
              obtain ⟨rfl, rfl, hb1, hb2, hb3, hb4, hb5, hb6⟩ := hb
              obtain ⟨hb7, hb8, zv, hz0, hzs⟩ := infoOk_spec hb4
              injection h with h
              subst h
              have hgl := G l
              rw [hl] at hgl
              have hgc := G c
              rw [hc] at hgc
              have hby : (i.bytes : Int) * m' ≤ 281474976710656 := by
                have h1 : (i.bytes : Int) * m' ≤ 4096 * m' := Int.mul_le_mul_of_nonneg_right (by omega) (by omega)
                have h2 : (4096 : Int) * m' ≤ 4096 * 1073741824 := Int.mul_le_mul_of_nonneg_left hb3 (by decide)
                omega
              have hrun0 := run_make (P := P) w t e i zv ht hi hz0 .i64 .i64 m m' hb1 hb2 hby (by omega)
              have hrun : (execOp a.eval ⟨some k, .makeSlice t l c, ty, pos, after, none⟩).run P w = .ok (.value (.slice (some ⟨w.heap.size, 0, none⟩) m.toNat m'.toNat)) (w.alloc (.cells (madeCells zv.cells (m'.toNat * i.size)) e)) := by
                refine exec_v ?_
                rw [hgl.int_, hgc.int_]
                exact hrun0
              unfold Oper.wp
              rw [hrun, Oper.upon_value]
              refine hK _ _ ?_
              refine adoptRow hI hin hk1 (ext_alloc0 hI.lt _) (lt_alloc0 hI.lt _) ?_ (by omega)
              unfold zeroOf at hz
              obtain ⟨it, hit, hz⟩ := Option.bind_eq_some_iff.1 hz
              obtain ⟨zv', hz0', hz⟩ := Option.bind_eq_some_iff.1 hz
              rw [hi] at hit
              injection hit with hit
              subst hit
              rw [hz0] at hz0'
              injection hz0' with hz0'
              subst hz0'
              obtain ⟨z1, z2, z3⟩ := zero_den (c := s.ctr) (ν := ν) (F := F) (w := w) hz
              rw [List.all_eq_true] at hb6
              have hzl : zv.cells.size = i.size := by rw [← hb5, ← z1]; simp
              have hle : m.toNat * i.size ≤ m'.toNat * i.size := Nat.mul_le_mul_right _ (by omega)
              have hat : ∀ j, j < m.toNat * i.size → (madeCells zv.cells (m'.toNat * i.size))[j]? = zv.cells.toList[j % i.size]? := fun j hj => by
                have hj' : j < m'.toNat * i.size := by omega
                have hmod : j % zv.cells.size < zv.cells.size := Nat.mod_lt _ (by
                  rw [hzl]
                  exact hb8)
                simp [madeCells, hj', hmod, hzl] at hmod ⊢
                simp [hmod, hzl]
              have hlen : ((madeCells zv.cells (m'.toNat * i.size)).toList.take (m.toNat * i.size)).length = m.toNat * i.size := by
                rw [List.length_take, Array.length_toList, size_madeCells]
                omega
              refine ⟨(madeCells zv.cells (m'.toNat * i.size)).toList.take (m.toNat * i.size), e, (madeCells zv.cells (m'.toNat * i.size)).toList.drop (m.toNat * i.size), (0, 0), ⟨?_, .inl rfl⟩, ?_, ?_, ?_, ?_⟩
              · rw [List.take_append_drop, Array.toArray_toList]
                exact heap_alloc_new w _
              · rw [hlen, rep_len, hb5]
              · intro v hv
                obtain ⟨j, hv⟩ := List.mem_iff_getElem?.1 hv
                have hj : j < m.toNat * i.size := by
                  have := (List.getElem?_eq_some_iff.1 hv).1
                  rwa [hlen] at this
                rw [List.getElem?_take, if_pos hj, Array.getElem?_toList, hat j hj] at hv
                exact z2 v (List.mem_of_getElem? hv)
              · intro j v x hv hx
                have hj : j < m.toNat * i.size := by
                  have := (List.getElem?_eq_some_iff.1 hv).1
                  rwa [hlen] at this
                rw [List.getElem?_take, if_pos hj, Array.getElem?_toList, hat j hj] at hv
                rw [rep_at z m.toNat j (by rw [hb5]; exact hj), hb5] at hx
                exact ((z3 _ _ _ hv hx).leaf_ (hb6 x (List.mem_of_getElem? hx))).ext (ext_alloc0 hI.lt _)
              · intro o hF
                exact Nat.lt_irrefl _ (hI.lt _ _ hF)
            · cases h
          · cases h
        · cases h
      | _ => simp at h
    · cases h
  · cases h
theorem cell_not_agg {F : Nat → Nat → Prop} {w : World} {v : Value} {x : D} (h : Den0 F w v x) (h1 : v.oneCell' = true) : dcells x = [x] := by
  cases h with
  | agg vs cs => simp [Value.oneCell'] at h1
  | _ => rfl
theorem rowList_len (sz : Nat) (ag : Bool) : ∀ (m : Nat) (cs : List D), (rowList sz ag m cs).length = m
  | 0, _ => rfl
  | m + 1, cs => by simp [rowList, rowList_len sz ag m]
theorem rowElem_cells {sz : Nat} {ag : Bool} {cs : List D} (hl : cs.length = sz) (hs : ag = true ∨ sz = 1) (hc : ∀ x ∈ cs, dcells x = [x]) : dcells (rowElem ag cs) = cs := by
  unfold rowElem
  cases ag with
  | true => rfl
  | false =>
    have h1 : sz = 1 := hs.resolve_left (by simp)
    match cs, hl with
    | [x], _ => exact hc x (by simp)
    | [], hl => simp at hl; omega
    | x :: y :: r, hl => simp at hl; omega
theorem rowList_flat {sz : Nat} {ag : Bool} (hs : ag = true ∨ sz = 1) : ∀ (m : Nat) (cs : List D), m * sz ≤ cs.length → (∀ x ∈ cs, dcells x = [x]) → (∀ e ∈ rowList sz ag m cs, (dcells e).length = sz) ∧ flat (rowList sz ag m cs) = cs.take (m * sz)
  | 0, cs, _, _ => by simp [rowList, flat]
  | m + 1, cs, hl, hc => by
    rw [Nat.succ_mul] at hl
    have e1 := rowElem_cells (ag := ag) (cs := cs.take sz) (sz := sz) (by simp; omega) hs (fun x hx => hc x (List.mem_of_mem_take hx))
    obtain ⟨h1, h2⟩ := rowList_flat hs m (cs.drop sz) (by simp; omega) (fun x hx => hc x (List.mem_of_mem_drop hx))
    refine ⟨fun e he => ?_, ?_⟩
    · simp only [rowList, List.mem_cons] at he
      rcases he with rfl | he
      · rw [e1]; simp; omega
      · exact h1 e he
    · have : flat (rowElem ag (cs.take sz) :: rowList sz ag m (cs.drop sz)) = dcells (rowElem ag (cs.take sz)) ++ flat (rowList sz ag m (cs.drop sz)) := by simp [flat]
      simp only [rowList]
      rw [this, e1, h2, Nat.succ_mul, Nat.add_comm, List.take_add]
/-- A row that is written to no more. -/
theorem Inv.freeze (hI : Inv P n S0 F0 w0 ν F cls s a w) {k g : Nat} {bx : Bx} (hb : s.box k = some bx) (hg : bx.gen = g) (hk1 : k < 1000000) :
    ∃ F', Inv P n S0 F0 w0 ν F' cls { s with box := upd s.box k none, slot := fun j => frzD k g bx.cells (s.slot j) } a w := by
  subst hg
  obtain ⟨⟨vs, te, rest, fr, ⟨h1, h0⟩, h2, h3, h4, h5⟩, hgc, hpl⟩ := hI.boxes k bx hb
  have hlate : w0.heap.size ≤ ν k bx.gen := by
    rcases hpl with ⟨i, hi, he⟩ | h
    · obtain ⟨b', e1, e2, e3⟩ := hI.given i hi
      have := hI.binj (pid i) b' k bx e1 hb (by rw [e2, e3, he])
      unfold pid at this
      omega
    · exact h
  have hbl := lt_of_heap h1
  refine ⟨fun b o => F b o ∨ (b = ν k bx.gen ∧ o < bx.cells.length), ?_⟩
  have hE : Ext (fun b => b = ν k bx.gen) F w (fun b o => F b o ∨ (b = ν k bx.gen ∧ o < bx.cells.length)) w := ⟨rfl, rfl, rfl, Nat.le_refl _, fun _ _ _ => rfl, fun _ _ h => .inl h, fun _ _ _ => rfl⟩
  have hnew : ∀ b o, (F b o ∨ (b = ν k bx.gen ∧ o < bx.cells.length)) → F b o ∨ w.heap.size ≤ b ∨ (fun b => b = ν k bx.gen) b := fun b o h => h.imp id fun h => .inr h.1
  have hbox : ∀ k' b', upd s.box k none k' = some b' → k' ≠ k ∧ s.box k' = some b' := by
    intro k' b' h
    simp only [upd] at h
    by_cases hk : k' = k
    · rw [if_pos hk] at h; cases h
    · rw [if_neg hk] at h; exact ⟨hk, h⟩
  have hfrz : ∀ {v : Value} {d : D}, Den s.ctr ν F w v d → Den s.ctr ν (fun b o => F b o ∨ (b = ν k bx.gen ∧ o < bx.cells.length)) w v (frzD k bx.gen bx.cells d) := by
    intro v d hd
    cases d with
    | row k' g' m sz ag =>
      simp only [frzD]
      split
      · rename_i he
        obtain ⟨rfl, rfl⟩ := he
        split
        · rename_i hc
          obtain ⟨hc1, hc2, hc3⟩ := hc
          obtain ⟨cap, rfl, _, hm⟩ := hd.row_
          have hone : ∀ x ∈ bx.cells, dcells x = [x] := by
            intro x hx
            obtain ⟨j, hj⟩ := List.mem_iff_getElem?.1 hx
            have hjl : j < vs.length := by rw [h2]; exact (List.getElem?_eq_some_iff.1 hj).1
            exact cell_not_agg (h4 j _ x (List.getElem?_eq_getElem hjl) hj) (h3 _ (List.getElem_mem hjl))
          obtain ⟨f1, f2⟩ := rowList_flat (ag := ag) hc3 m bx.cells hc1 hone
          refine .pure _ _ (.list _ m cap sz _ (vs.take (m * sz)) (rowList_len sz ag m _) hm hc2 f1 (by simp; omega) (.inr ⟨ν k' bx.gen, 0, rfl, ?_⟩) ?_)
          · intro i v hv
            have hi : i < m * sz := by
              have := (List.getElem?_eq_some_iff.1 hv).1
              simp at this
              omega
            rw [List.getElem?_take, if_pos hi] at hv
            have hil := (List.getElem?_eq_some_iff.1 hv).1
            refine ⟨.inr ⟨rfl, by omega⟩, ?_, h3 v (List.mem_of_getElem? hv)⟩
            rw [Nat.zero_add, cell_of_row w _ _ _ _ _ h1]
            simpa [List.getElem?_append_left hil] using hv
          · intro i v x hv hx
            rw [f2] at hx
            have hi : i < m * sz := by
              have := (List.getElem?_eq_some_iff.1 hv).1
              simp at this
              omega
            rw [List.getElem?_take, if_pos hi] at hv hx
            exact (h4 i v x hv hx).ext hE
        · exact .bad _
      · exact hd.ext hE
    | _ => exact hd.ext hE
  refine ⟨hI.ext.late hE (fun b hb => .inr (by rw [hb]; exact hlate)), ?_, ?_, hI.size, hI.defers, fun j => hfrz (hI.slots j), fun j i => ?_, hI.inj, fun j i g k' b' h1 h2 => hI.sep j i g k' b' h1 (hbox k' b' h2).2, hI.loc, ?_, ?_, ?_, hI.gok.ext hE⟩
  · intro b o h
    rcases h with h | ⟨rfl, _⟩
    · exact hI.lt b o h
    · exact hbl
  · intro b o h
    rcases h with h | ⟨rfl, _⟩
    · exact hI.news b o h
    · exact .inr hlate
  · have hr := (hI.rooms j i).ext hE hnew (fun g hg h => hI.sep j i g k bx hg hb h.symm)
    show RoomAt P _ w _ (dcomp (frzD k bx.gen bx.cells (s.slot j)) i) _ _
    cases hd : s.slot j with
    | row k' g' m sz ag =>
      rw [hd] at hr
      match hrm : (s.room j)[i]?, hr with
      | none, hr => exact hr
      | some .no, hr => exact hr
      | some .full, hr =>
        obtain ⟨_, es, a', _, h⟩ := hr
        cases i <;> simp [dcomp] at h
      | some (.own e), hr =>
        obtain ⟨u, es, _, h, _⟩ := hr
        cases i <;> simp [dcomp] at h
    | _ => rw [hd] at hr; exact hr
  · intro k' b' h
    obtain ⟨hne, h⟩ := hbox k' b' h
    obtain ⟨h6, h7, h8⟩ := hI.boxes k' b' h
    exact ⟨h6.ext hE hnew (fun he => hne (hI.binj k' b' k bx h hb he)), h7, h8⟩
  · intro k1 b1 k2 b2 h1 h2 he
    exact hI.binj k1 b1 k2 b2 (hbox k1 b1 h1).2 (hbox k2 b2 h2).2 he
  · intro i hi
    obtain ⟨b', e1, e2, e3⟩ := hI.given i hi
    refine ⟨b', ?_, e2, e3⟩
    have hne : pid i ≠ k := by unfold pid; omega
    simp only [upd, if_neg hne]
    exact e1
theorem Rep.freeze (hR : Rep P n S0 F0 w0 s a w) (t : Tmp) : Rep P n S0 F0 w0 (s.freeze t) a w := by
  unfold St.freeze
  split
  · split
    · split
      · rename_i hc
        obtain ⟨ν, F, cls, hI⟩ := hR
        obtain ⟨F', h⟩ := hI.freeze ‹_› hc.1 hc.2
        exact ⟨_, _, _, h⟩
      · exact hR
    · exact hR
  · exact hR
theorem Rep.frz : ∀ (l : List Tmp) {s : St}, Rep P n S0 F0 w0 s a w → Rep P n S0 F0 w0 (s.frz l) a w
  | [], _, hR => hR
  | t :: l, _, hR => Rep.frz l (hR.freeze t)
end
end Go.Av
