/- The evaluator, in one text: over any program; no conditions but those that each law names. -/
import Derived.Test.YtolpadbdjhmfgaaGreatDoorAvsa
import Derived.Test.YtolpadbdjhmfgaaGreatDoorAvb
set_option linter.unusedSimpArgs false
set_option linter.unusedVariables false
set_option linter.unusedSectionVars false
/- Chapter 8: the region in which a specificity is added: whatever its order. -/
set_option linter.unusedVariables false
set_option maxRecDepth 100000
namespace Go.Proofs.YtolpadbdjhmfgaaGreatDoor
open Go.Proofs Go.RowKit Go.Shelf
/-- A region of a body, by its number. -/
def findR (n : Nat) : Code → Option (Array Oper)
  | .region k ops _ => if k == n then some ops else none
  | .seq a b => (findR n a).or (findR n b)
  | .cond _ a b => (findR n a).or (findR n b)
  | .block _ a => findR n a
  | .loop a => findR n a
  | .rangeFunc _ _ a b => (findR n a).or (findR n b)
  | _ => none
noncomputable def ops4 : Array Oper := (Tryz.f57.body.bind (findR 4)).getD #[]
theorem ready_at {listed : Array Bool} {i : Nat} {o : Oper} {ops : Array Oper} (h : i ∈ Region.ready .any ops listed) (ho : ops[i]? = some o) :
    listed.getD i true = false ∧ (o.after.all fun e => !Region.binds .any e || listed.getD e.on false) = true := by
  unfold Region.ready at h
  rw [List.mem_filter] at h
  simpa [ho] using h.2
theorem ready_lt {listed : Array Bool} {i : Nat} {ops : Array Oper} (h : i ∈ Region.ready .any ops listed) : i < ops.size := by
  unfold Region.ready at h
  rw [List.mem_filter] at h
  simpa using h.1
/-- A region by what holds between two of its operations. -/
theorem any_inv {F : Fence} {n : Nat} {P : Program} {ops : Array Oper} {Q : Exit → Act → World → Prop} (Inv : Array Bool → Act → World → Prop) (hsz : ∀ listed a w, Inv listed a w → listed.size = ops.size)
    (step : ∀ listed a w i, Inv listed a w → i ∈ Region.ready .any ops listed → wpOpIn F n P ops Q i (fun a' w' => Inv (listed.setIfInBounds i true) a' w') a w)
    (done : ∀ listed a w, Inv listed a w → Region.ready .any ops listed = [] → Q .normal a w) :
    ∀ (fuel : Nat) (listed : Array Bool) (a : Act) (w : World), Inv listed a w → listed.toList.count false ≤ fuel → wpAnyIn F n P .any ops Q fuel listed a w
  | 0, listed, a, w, h, hf => by
    have hr : Region.ready .any ops listed = [] := by
      rw [List.eq_nil_iff_forall_not_mem]
      intro i hi
      have hlt := ready_lt hi
      have h1 := (ready_at (o := ops[i]) hi (Array.getElem?_eq_getElem hlt)).1
      have hl : i < listed.size := by rw [hsz _ _ _ h]; exact hlt
      have h2 : listed[i] = false := by simpa [Array.getD, hl] using h1
      have h3 : false ∈ listed.toList := by rw [← h2]; exact Array.getElem_mem_toList hl
      have := List.count_pos_iff.2 h3
      omega
    exact ⟨hr, done _ _ _ h hr⟩
  | fuel + 1, listed, a, w, h, hf => by
    refine ⟨fun hr => done _ _ _ h hr, fun i hi => ?_⟩
    refine wpOpIn_mono (fun a' w' hI => any_inv Inv hsz step done fuel _ a' w' hI ?_) (step _ _ _ i h hi)
    have hlt := ready_lt hi
    have h1 := (ready_at (o := ops[i]) hi (Array.getElem?_eq_getElem hlt)).1
    have hl : i < listed.size := by rw [hsz _ _ _ h]; exact hlt
    have h2 : listed[i] = false := by simpa [Array.getD, hl] using h1
    have h3 : (listed.setIfInBounds i true).toList.count false + 1 ≤ listed.toList.count false := by
      rw [Array.toList_setIfInBounds, List.count_set (by simpa using hl)]
      have this' : listed.toList[i]'(by simpa using hl) = false := by simpa using h2
      have h3 : false ∈ listed.toList := by rw [← h2]; exact Array.getElem_mem_toList hl
      have := List.count_pos_iff.2 h3
      rw [this']
      simp only [beq_self_eq_true, if_true, show (true == false) = false from rfl, Bool.false_eq_true, if_false]
      omega
    omega

noncomputable def dst4 (i : Nat) : Option Nat := (ops4[i]?).bind (·.dst)
noncomputable def deps4 (i : Nat) : List Nat := ((ops4[i]?).map fun o => (o.after.toList.filter fun e => Region.binds .any e).map (·.on)).getD []
theorem deps_of {listed : Array Bool} {i : Nat} (h : i ∈ Region.ready .any ops4 listed) {d : Nat} (hd : (deps4 i).contains d = true) : listed.getD d false = true := by
  have hlt := ready_lt h
  have h2 := (ready_at (o := ops4[i]) h (Array.getElem?_eq_getElem hlt)).2
  rw [List.contains_iff_mem] at hd
  unfold deps4 at hd
  rw [Array.getElem?_eq_getElem hlt] at hd
  simp only [Option.map_some, Option.getD_some, List.mem_map, List.mem_filter] at hd
  obtain ⟨e, ⟨he, hb⟩, rfl⟩ := hd
  have := (Array.all_eq_true_iff_forall_mem.1 h2) e (by simpa using he)
  simpa [hb] using this
def V4 (B1 B4 : Nat) (x0 x1 x2 y0 y1 y2 : Int) : Nat → Value
  | 11 => .pointer (some ⟨B1, 0, none⟩) | 12 => .int .i64 x0 | 13 => .pointer (some ⟨B4, 0, none⟩) | 14 => .int .i64 y0 | 15 => .int .i64 (wrap64 (x0 + y0))
  | 16 => .pointer (some ⟨B1, 1, none⟩) | 17 => .int .i64 x1 | 18 => .pointer (some ⟨B4, 1, none⟩) | 19 => .int .i64 y1 | 20 => .int .i64 (wrap64 (x1 + y1))
  | 21 => .pointer (some ⟨B1, 2, none⟩) | 22 => .int .i64 x2 | 23 => .pointer (some ⟨B4, 2, none⟩) | 24 => .int .i64 y2 | 25 => .int .i64 (wrap64 (x2 + y2))
  | 26 => .pointer (some ⟨B1, 0, none⟩) | 27 => .pointer (some ⟨B1, 1, none⟩) | 28 => .pointer (some ⟨B1, 2, none⟩)
  | _ => undef
theorem dst_inj : ((List.range 21).all fun i => (List.range 21).all fun j => i == j || (dst4 i).isNone || !(dst4 i == dst4 j)) = true := by kernel_rfl
theorem dst_rng : ((List.range 21).all fun i => match dst4 i with | some d => decide (11 ≤ d) && decide (d < 29) | none => true) = true := by kernel_rfl
theorem BoxR.set {w : World} {B : Nat} {t : TypeId} {C : Array Value} (h : BoxR w B t C) (j : Nat) (v : Value) : BoxR (w.setCell ⟨B, j, none⟩ v) B t (C.setIfInBounds j v) := by
  unfold BoxR at *
  simp [World.setCell, Array.getElem?_modify, h]
structure I4 (n₀ B1 B4 : Nat) (x0 x1 x2 y0 y1 y2 : Int) (W3 : World) (listed : Array Bool) (a : Act) (w : World) : Prop where
  sz : listed.size = 21
  tz : a.tmps.size = 30
  t2 : a.tmps.getD 2 undef = .pointer (some ⟨B1, 0, none⟩)
  t4 : a.tmps.getD 4 undef = .pointer (some ⟨B4, 0, none⟩)
  val : ∀ i d, i < 21 → dst4 i = some d → listed.getD i false = true → a.tmps.getD d undef = V4 B1 B4 x0 x1 x2 y0 y1 y2 d
  cl : ∀ i d, (deps4 i).contains d = true → listed.getD i false = true → listed.getD d false = true
  sum : BoxR w B1 23 #[.int .i64 (if listed.getD 16 false = true then wrap64 (x0 + y0) else x0), .int .i64 (if listed.getD 18 false = true then wrap64 (x1 + y1) else x1), .int .i64 (if listed.getD 20 false = true then wrap64 (x2 + y2) else x2)]
  src : BoxR w B4 23 #[.int .i64 y0, .int .i64 y1, .int .i64 y2]
  ko : KeepsOthers W3 w
  be : Below n₀ W3 w
theorem set_get {listed : Array Bool} {i j : Nat} (h : i < listed.size) : (listed.setIfInBounds i true).getD j false = if j = i then true else listed.getD j false := by
  by_cases hj : j = i
  · subst hj; simp [Array.getD, h]
  · rw [if_neg hj]
    simp only [Array.getD_eq_getD_getElem?, Array.getElem?_setIfInBounds_ne (fun e => hj e.symm)]
section
variable {n₀ B1 B4 : Nat} {x0 x1 x2 y0 y1 y2 : Int} {W3 : World} {listed : Array Bool} {a : Act} {w : World}
theorem I4.put (h : I4 n₀ B1 B4 x0 x1 x2 y0 y1 y2 W3 listed a w) {i d : Nat} (hi : i < 21) (hr : i ∈ Region.ready .any ops4 listed) (hd : dst4 i = some d) (h1 : i ≠ 16) (h2 : i ≠ 18) (h3 : i ≠ 20) :
    I4 n₀ B1 B4 x0 x1 x2 y0 y1 y2 W3 (listed.setIfInBounds i true) (a.put (some d) (V4 B1 B4 x0 x1 x2 y0 y1 y2 d)) w := by
  have hs : i < listed.size := by rw [h.sz]; exact hi
  have hrng := List.all_eq_true.1 dst_rng i (by simpa using hi)
  rw [hd] at hrng
  simp only [Bool.and_eq_true, decide_eq_true_eq] at hrng
  have hget : ∀ k v, k ≠ d → (a.put (some d) v).tmps.getD k undef = a.tmps.getD k undef := fun k v hk => by
    show (a.tmps.setIfInBounds d v).getD k undef = _
    simp only [Array.getD_eq_getD_getElem?, Array.getElem?_setIfInBounds_ne (fun e => hk e.symm)]
  refine ⟨by simp [h.sz], by simp [Act.put, h.tz], (hget 2 _ (by omega)).trans h.t2, (hget 4 _ (by omega)).trans h.t4, fun j e hj he hl => ?_, fun j e he hl => ?_, ?_, h.src, h.ko, h.be⟩
  · rw [set_get hs] at hl
    by_cases hji : j = i
    · subst hji
      rw [hd] at he
      obtain rfl := Option.some.inj he
      show (a.tmps.setIfInBounds d _).getD d undef = _
      simp [Array.getD, h.tz, (show d < 30 by omega)]
    · rw [if_neg hji] at hl
      have hinj := List.all_eq_true.1 (List.all_eq_true.1 dst_inj i (by simpa using hi)) j (by simpa using hj)
      rw [hd, he] at hinj
      have hne : e ≠ d := by
        rintro rfl
        simp [Ne.symm hji] at hinj
      rw [hget e _ hne]
      exact h.val j e hj he hl
  · rw [set_get hs] at hl ⊢
    by_cases hji : j = i
    · subst hji
      have := deps_of hr he
      split
      · rfl
      · exact this
    · rw [if_neg hji] at hl
      split
      · rfl
      · exact h.cl j e he hl
  · rw [set_get hs, set_get hs, set_get hs, if_neg (Ne.symm h1), if_neg (Ne.symm h2), if_neg (Ne.symm h3)]
    exact h.sum

theorem BoxR.other {w : World} {B B' : Nat} {t : TypeId} {C : Array Value} (h : BoxR w B t C) (hne : B' ≠ B) (j : Nat) (v : Value) : BoxR (w.setCell ⟨B', j, none⟩ v) B t C := by
  unfold BoxR at *
  simp [World.setCell, Array.getElem?_modify, h, hne]
theorem not_yet (h : I4 n₀ B1 B4 x0 x1 x2 y0 y1 y2 W3 listed a w) {i d : Nat} (hr : i ∈ Region.ready .any ops4 listed) (hd : (deps4 d).contains i = true) : listed.getD d false = false := by
  have hlt := ready_lt hr
  have h1 := (ready_at (o := ops4[i]) hr (Array.getElem?_eq_getElem hlt)).1
  cases hl : listed.getD d false with
  | false => rfl
  | true =>
    have h2 := h.cl d i hd hl
    have hi : i < listed.size := by rw [h.sz]; exact hlt
    simp [Array.getD, hi] at h1 h2
    rw [h1] at h2
    cases h2
theorem op_of {l n i : Nat} {o : Oper} {v : Value} {w' : World} {Q : Exit → Act → World → Prop} {K : Act → World → Prop} (ho : ops4[i]? = some o) (hg : o.guard = none) (hnd : ∀ c, o.op ≠ .defer c)
    (hrun : (execOp a.eval o).run Tryz.prog w = .ok (.value v) w') (hK : K (a.put o.dst v) w') : wpOpIn (Fence.wide.inRound l) n Tryz.prog ops4 Q i K a w := by
  unfold wpOpIn
  rw [ho]
  have hw : Region.wanted o (yielded ops4 a.tmps) = true := by simp [Region.wanted, hg]
  simp only [hw, if_true]
  refine ⟨fun f _ => trivial, ?_⟩
  rw [show (Fence.wide.inRound l).round = some l from rfl, Oper.semAt_some l _ _ hnd, hrun]
  exact hK
theorem op_skip {l n i : Nat} {o : Oper} {w' : World} {Q : Exit → Act → World → Prop} {K : Act → World → Prop} (ho : ops4[i]? = some o) (hdst : o.dst = none) (hg : o.guard = none) (hnd : ∀ c, o.op ≠ .defer c)
    (hrun : (execOp a.eval o).run Tryz.prog w = .ok .skip w') (hK : K a w') : wpOpIn (Fence.wide.inRound l) n Tryz.prog ops4 Q i K a w := by
  unfold wpOpIn
  rw [ho]
  have hw : Region.wanted o (yielded ops4 a.tmps) = true := by simp [Region.wanted, hg]
  simp only [hw, if_true]
  refine ⟨fun f _ => trivial, ?_⟩
  rw [show (Fence.wide.inRound l).round = some l from rfl, Oper.semAt_some l _ _ hnd, hrun, Oper.uponIn_skip, hdst]
  exact hK
theorem ex_fa {o : Oper} {s k B : Nat} (ho : o.op = .fieldAddr 23 (.tmp s) k) (h : a.tmps.getD s undef = .pointer (some ⟨B, 0, none⟩)) (hk : k < 3) : (execOp a.eval o).run Tryz.prog w = .ok (.value (.pointer (some ⟨B, k, none⟩))) w := by
  have he : a.tmps[s]?.getD undef = .pointer (some ⟨B, 0, none⟩) := by rw [← Array.getD_eq_getD_getElem?]; exact h
  match k, hk with
  | 0, _ => simp [go_sem, execOp, ho, he]
  | 1, _ => simp [go_sem, execOp, ho, he]
  | 2, _ => simp [go_sem, execOp, ho, he]
theorem ex_ld {o : Oper} {s B k : Nat} {x : Int} (ho : o.op = .load 3 (.tmp s)) (h : a.tmps.getD s undef = .pointer (some ⟨B, k, none⟩)) (hc : w.cell? ⟨B, k, none⟩ = some (.int .i64 x)) : (execOp a.eval o).run Tryz.prog w = .ok (.value (.int .i64 x)) w := by
  have he : a.tmps[s]?.getD undef = .pointer (some ⟨B, k, none⟩) := by rw [← Array.getD_eq_getD_getElem?]; exact h
  simp [go_sem, execOp, ho, he, hc]
theorem ex_add {o : Oper} {s t : Nat} {x y : Int} (ho : o.op = .binOp .add 3 (.tmp s) (.tmp t) 3) (h : a.tmps.getD s undef = .int .i64 x) (h' : a.tmps.getD t undef = .int .i64 y) : (execOp a.eval o).run Tryz.prog w = .ok (.value (.int .i64 (wrap64 (x + y)))) w := by
  have he : a.tmps[s]?.getD undef = .int .i64 x := by rw [← Array.getD_eq_getD_getElem?]; exact h
  have he' : a.tmps[t]?.getD undef = .int .i64 y := by rw [← Array.getD_eq_getD_getElem?]; exact h'
  simp [go_sem, execOp, ho, he, he']
  unfold wrap64
  exact IntKind.wrap_i64 _
theorem ex_st {o : Oper} {s t B k : Nat} {x y : Int} (ho : o.op = .store 3 (.tmp s) (.tmp t)) (h : a.tmps.getD s undef = .pointer (some ⟨B, k, none⟩)) (h' : a.tmps.getD t undef = .int .i64 y) (hc : w.cell? ⟨B, k, none⟩ = some (.int .i64 x)) (hf : w.frozen? ⟨B, k, none⟩ = false) :
    (execOp a.eval o).run Tryz.prog w = .ok .skip (w.setCell ⟨B, k, none⟩ (.int .i64 y)) := by
  have he : a.tmps[s]?.getD undef = .pointer (some ⟨B, k, none⟩) := by rw [← Array.getD_eq_getD_getElem?]; exact h
  have he' : a.tmps[t]?.getD undef = .int .i64 y := by rw [← Array.getD_eq_getD_getElem?]; exact h'
  simp [go_sem, execOp, ho, he, he', hc, hf]
theorem I4.store0 (h : I4 n₀ B1 B4 x0 x1 x2 y0 y1 y2 W3 listed a w) (hB : n₀ ≤ B1 ∧ B1 ≠ B4) (hr : 16 ∈ Region.ready .any ops4 listed) :
    I4 n₀ B1 B4 x0 x1 x2 y0 y1 y2 W3 (listed.setIfInBounds 16 true) a (w.setCell ⟨B1, 0, none⟩ (.int .i64 (wrap64 (x0 + y0)))) := by
  have hs : 16 < listed.size := by rw [h.sz]; decide
  refine ⟨by simp [h.sz], h.tz, h.t2, h.t4, fun j e hj he hl => ?_, fun j e he hl => ?_, ?_, ?_, h.ko.trans (KeepsOthers.setCell _ _ _), h.be.setCell (p := ⟨B1, 0, none⟩) hB.1 _⟩
  · rw [set_get hs] at hl
    by_cases hji : j = 16
    · subst hji
      cases he
    · rw [if_neg hji] at hl
      exact h.val j e hj he hl
  · rw [set_get hs] at hl ⊢
    by_cases hji : j = 16
    · subst hji
      have := deps_of hr he
      split
      · rfl
      · exact this
    · rw [if_neg hji] at hl
      split
      · rfl
      · exact h.cl j e he hl
  · rw [set_get hs, set_get hs, set_get hs]
    have := h.sum.set 0 (.int .i64 (wrap64 (x0 + y0)))
    simpa using this
  · exact h.src.other hB.2 _ _
theorem I4.store1 (h : I4 n₀ B1 B4 x0 x1 x2 y0 y1 y2 W3 listed a w) (hB : n₀ ≤ B1 ∧ B1 ≠ B4) (hr : 18 ∈ Region.ready .any ops4 listed) :
    I4 n₀ B1 B4 x0 x1 x2 y0 y1 y2 W3 (listed.setIfInBounds 18 true) a (w.setCell ⟨B1, 1, none⟩ (.int .i64 (wrap64 (x1 + y1)))) := by
  have hs : 18 < listed.size := by rw [h.sz]; decide
  refine ⟨by simp [h.sz], h.tz, h.t2, h.t4, fun j e hj he hl => ?_, fun j e he hl => ?_, ?_, ?_, h.ko.trans (KeepsOthers.setCell _ _ _), h.be.setCell (p := ⟨B1, 1, none⟩) hB.1 _⟩
  · rw [set_get hs] at hl
    by_cases hji : j = 18
    · subst hji
      cases he
    · rw [if_neg hji] at hl
      exact h.val j e hj he hl
  · rw [set_get hs] at hl ⊢
    by_cases hji : j = 18
    · subst hji
      have := deps_of hr he
      split
      · rfl
      · exact this
    · rw [if_neg hji] at hl
      split
      · rfl
      · exact h.cl j e he hl
  · rw [set_get hs, set_get hs, set_get hs]
    have := h.sum.set 1 (.int .i64 (wrap64 (x1 + y1)))
    simpa using this
  · exact h.src.other hB.2 _ _
theorem I4.store2 (h : I4 n₀ B1 B4 x0 x1 x2 y0 y1 y2 W3 listed a w) (hB : n₀ ≤ B1 ∧ B1 ≠ B4) (hr : 20 ∈ Region.ready .any ops4 listed) :
    I4 n₀ B1 B4 x0 x1 x2 y0 y1 y2 W3 (listed.setIfInBounds 20 true) a (w.setCell ⟨B1, 2, none⟩ (.int .i64 (wrap64 (x2 + y2)))) := by
  have hs : 20 < listed.size := by rw [h.sz]; decide
  refine ⟨by simp [h.sz], h.tz, h.t2, h.t4, fun j e hj he hl => ?_, fun j e he hl => ?_, ?_, ?_, h.ko.trans (KeepsOthers.setCell _ _ _), h.be.setCell (p := ⟨B1, 2, none⟩) hB.1 _⟩
  · rw [set_get hs] at hl
    by_cases hji : j = 20
    · subst hji
      cases he
    · rw [if_neg hji] at hl
      exact h.val j e hj he hl
  · rw [set_get hs] at hl ⊢
    by_cases hji : j = 20
    · subst hji
      have := deps_of hr he
      split
      · rfl
      · exact this
    · rw [if_neg hji] at hl
      split
      · rfl
      · exact h.cl j e he hl
  · rw [set_get hs, set_get hs, set_get hs]
    have := h.sum.set 2 (.int .i64 (wrap64 (x2 + y2)))
    simpa using this
  · exact h.src.other hB.2 _ _
theorem step4 {l n : Nat} {Q : Exit → Act → World → Prop} (h : I4 n₀ B1 B4 x0 x1 x2 y0 y1 y2 W3 listed a w) (hB : n₀ ≤ B1 ∧ B1 ≠ B4) : ∀ i, i < 21 → i ∈ Region.ready .any ops4 listed →
    wpOpIn (Fence.wide.inRound l) n Tryz.prog ops4 Q i (fun a' w' => I4 n₀ B1 B4 x0 x1 x2 y0 y1 y2 W3 (listed.setIfInBounds i true) a' w') a w
  | 0, hi, hr => by
    exact op_of (o := ops4[0]) rfl rfl (fun c hc => by cases hc) (ex_fa (s := 2) (k := 0) rfl h.t2 (by decide)) (h.put (d := 11) hi hr rfl (by decide) (by decide) (by decide))
  | 1, hi, hr => by
    have hf : listed.getD 16 false = false := not_yet h hr (d := 16) (by kernel_rfl)
    have hc := h.sum.cell 0
    rw [hf] at hc
    exact op_of (o := ops4[1]) rfl rfl (fun c hc => by cases hc) (ex_ld (s := 11) (x := x0) rfl (h.val 0 11 (by decide) rfl (deps_of hr (d := 0) (by kernel_rfl))) hc) (h.put (d := 12) hi hr rfl (by decide) (by decide) (by decide))
  | 2, hi, hr => by
    exact op_of (o := ops4[2]) rfl rfl (fun c hc => by cases hc) (ex_fa (s := 4) (k := 0) rfl h.t4 (by decide)) (h.put (d := 13) hi hr rfl (by decide) (by decide) (by decide))
  | 3, hi, hr => by
    exact op_of (o := ops4[3]) rfl rfl (fun c hc => by cases hc) (ex_ld (s := 13) rfl (h.val 2 13 (by decide) rfl (deps_of hr (d := 2) (by kernel_rfl))) (h.src.cell 0)) (h.put (d := 14) hi hr rfl (by decide) (by decide) (by decide))
  | 4, hi, hr => by
    exact op_of (o := ops4[4]) rfl rfl (fun c hc => by cases hc) (ex_add (s := 12) (t := 14) rfl (h.val 1 12 (by decide) rfl (deps_of hr (d := 1) (by kernel_rfl))) (h.val 3 14 (by decide) rfl (deps_of hr (d := 3) (by kernel_rfl)))) (h.put (d := 15) hi hr rfl (by decide) (by decide) (by decide))
  | 5, hi, hr => by
    exact op_of (o := ops4[5]) rfl rfl (fun c hc => by cases hc) (ex_fa (s := 2) (k := 1) rfl h.t2 (by decide)) (h.put (d := 16) hi hr rfl (by decide) (by decide) (by decide))
  | 6, hi, hr => by
    have hf : listed.getD 18 false = false := not_yet h hr (d := 18) (by kernel_rfl)
    have hc := h.sum.cell 1
    rw [hf] at hc
    exact op_of (o := ops4[6]) rfl rfl (fun c hc => by cases hc) (ex_ld (s := 16) (x := x1) rfl (h.val 5 16 (by decide) rfl (deps_of hr (d := 5) (by kernel_rfl))) hc) (h.put (d := 17) hi hr rfl (by decide) (by decide) (by decide))
  | 7, hi, hr => by
    exact op_of (o := ops4[7]) rfl rfl (fun c hc => by cases hc) (ex_fa (s := 4) (k := 1) rfl h.t4 (by decide)) (h.put (d := 18) hi hr rfl (by decide) (by decide) (by decide))
  | 8, hi, hr => by
    exact op_of (o := ops4[8]) rfl rfl (fun c hc => by cases hc) (ex_ld (s := 18) rfl (h.val 7 18 (by decide) rfl (deps_of hr (d := 7) (by kernel_rfl))) (h.src.cell 1)) (h.put (d := 19) hi hr rfl (by decide) (by decide) (by decide))
  | 9, hi, hr => by
    exact op_of (o := ops4[9]) rfl rfl (fun c hc => by cases hc) (ex_add (s := 17) (t := 19) rfl (h.val 6 17 (by decide) rfl (deps_of hr (d := 6) (by kernel_rfl))) (h.val 8 19 (by decide) rfl (deps_of hr (d := 8) (by kernel_rfl)))) (h.put (d := 20) hi hr rfl (by decide) (by decide) (by decide))
  | 10, hi, hr => by
    exact op_of (o := ops4[10]) rfl rfl (fun c hc => by cases hc) (ex_fa (s := 2) (k := 2) rfl h.t2 (by decide)) (h.put (d := 21) hi hr rfl (by decide) (by decide) (by decide))
  | 11, hi, hr => by
    have hf : listed.getD 20 false = false := not_yet h hr (d := 20) (by kernel_rfl)
    have hc := h.sum.cell 2
    rw [hf] at hc
    exact op_of (o := ops4[11]) rfl rfl (fun c hc => by cases hc) (ex_ld (s := 21) (x := x2) rfl (h.val 10 21 (by decide) rfl (deps_of hr (d := 10) (by kernel_rfl))) hc) (h.put (d := 22) hi hr rfl (by decide) (by decide) (by decide))
  | 12, hi, hr => by
    exact op_of (o := ops4[12]) rfl rfl (fun c hc => by cases hc) (ex_fa (s := 4) (k := 2) rfl h.t4 (by decide)) (h.put (d := 23) hi hr rfl (by decide) (by decide) (by decide))
  | 13, hi, hr => by
    exact op_of (o := ops4[13]) rfl rfl (fun c hc => by cases hc) (ex_ld (s := 23) rfl (h.val 12 23 (by decide) rfl (deps_of hr (d := 12) (by kernel_rfl))) (h.src.cell 2)) (h.put (d := 24) hi hr rfl (by decide) (by decide) (by decide))
  | 14, hi, hr => by
    exact op_of (o := ops4[14]) rfl rfl (fun c hc => by cases hc) (ex_add (s := 22) (t := 24) rfl (h.val 11 22 (by decide) rfl (deps_of hr (d := 11) (by kernel_rfl))) (h.val 13 24 (by decide) rfl (deps_of hr (d := 13) (by kernel_rfl)))) (h.put (d := 25) hi hr rfl (by decide) (by decide) (by decide))
  | 15, hi, hr => by
    exact op_of (o := ops4[15]) rfl rfl (fun c hc => by cases hc) (ex_fa (s := 2) (k := 0) rfl h.t2 (by decide)) (h.put (d := 26) hi hr rfl (by decide) (by decide) (by decide))
  | 16, hi, hr => by
    exact op_skip (o := ops4[16]) rfl rfl rfl (fun c hc => by cases hc) (ex_st (s := 26) (t := 15) rfl (h.val 15 26 (by decide) rfl (deps_of hr (d := 15) (by kernel_rfl))) (h.val 4 15 (by decide) rfl (deps_of hr (d := 4) (by kernel_rfl))) (h.sum.cell 0) (h.sum.frozen 0)) (h.store0 hB hr)
  | 17, hi, hr => by
    exact op_of (o := ops4[17]) rfl rfl (fun c hc => by cases hc) (ex_fa (s := 2) (k := 1) rfl h.t2 (by decide)) (h.put (d := 27) hi hr rfl (by decide) (by decide) (by decide))
  | 18, hi, hr => by
    exact op_skip (o := ops4[18]) rfl rfl rfl (fun c hc => by cases hc) (ex_st (s := 27) (t := 20) rfl (h.val 17 27 (by decide) rfl (deps_of hr (d := 17) (by kernel_rfl))) (h.val 9 20 (by decide) rfl (deps_of hr (d := 9) (by kernel_rfl))) (h.sum.cell 1) (h.sum.frozen 1)) (h.store1 hB hr)
  | 19, hi, hr => by
    exact op_of (o := ops4[19]) rfl rfl (fun c hc => by cases hc) (ex_fa (s := 2) (k := 2) rfl h.t2 (by decide)) (h.put (d := 28) hi hr rfl (by decide) (by decide) (by decide))
  | 20, hi, hr => by
    exact op_skip (o := ops4[20]) rfl rfl rfl (fun c hc => by cases hc) (ex_st (s := 28) (t := 25) rfl (h.val 19 28 (by decide) rfl (deps_of hr (d := 19) (by kernel_rfl))) (h.val 14 25 (by decide) rfl (deps_of hr (d := 14) (by kernel_rfl))) (h.sum.cell 2) (h.sum.frozen 2)) (h.store2 hB hr)
  | i + 21, hi, _ => by omega
theorem deps_lt : ((List.range 21).all fun i => (deps4 i).all fun d => decide (d < i)) = true := by kernel_rfl
theorem all_listed {listed : Array Bool} (hs : listed.size = 21) (hr : Region.ready .any ops4 listed = []) : ∀ i, i < 21 → listed.getD i false = true := by
  intro i
  induction i using Nat.strongRecOn with
  | ind i ih =>
    intro hi
    cases hl : listed.getD i false with
    | true => rfl
    | false =>
      exfalso
      have hlt : i < ops4.size := hi
      have hm : i ∈ Region.ready .any ops4 listed := by
        unfold Region.ready
        rw [List.mem_filter]
        refine ⟨by simpa using hlt, ?_⟩
        have h1 : listed.getD i true = false := by
          have hi' : i < listed.size := by omega
          simp [Array.getD, hi'] at hl ⊢
          exact hl
        rw [h1, Array.getElem?_eq_getElem hlt]
        simp only [Bool.not_false, Option.map_some, Option.getD_some, Bool.true_and]
        rw [Array.all_eq_true_iff_forall_mem]
        intro e he
        cases hb : Region.binds .any e with
        | false => rfl
        | true =>
          have hd : e.on ∈ deps4 i := by
            unfold deps4
            rw [Array.getElem?_eq_getElem hlt]
            simp only [Option.map_some, Option.getD_some, List.mem_map, List.mem_filter]
            exact ⟨e, ⟨by simpa using he, hb⟩, rfl⟩
          have h2 := List.all_eq_true.1 (List.all_eq_true.1 deps_lt i (by simpa using hi)) _ hd
          have h3 := of_decide_eq_true h2
          rw [ih _ h3 (by omega)]
          rfl
      rw [hr] at hm
      cases hm
theorem reg4_in {l n : Nat} {Q : Exit → Act → World → Prop} (hB : n₀ ≤ B1 ∧ B1 ≠ B4) (hz : a.tmps.size = 30) (h2 : a.tmps.getD 2 undef = .pointer (some ⟨B1, 0, none⟩)) (h4 : a.tmps.getD 4 undef = .pointer (some ⟨B4, 0, none⟩))
    (bS : BoxR W3 B1 23 #[.int .i64 x0, .int .i64 x1, .int .i64 x2]) (bX : BoxR W3 B4 23 #[.int .i64 y0, .int .i64 y1, .int .i64 y2])
    (hQ : ∀ a' w', BoxR w' B1 23 #[.int .i64 (wrap64 (x0 + y0)), .int .i64 (wrap64 (x1 + y1)), .int .i64 (wrap64 (x2 + y2))] → KeepsOthers W3 w' → Below n₀ W3 w' → Q .normal a' w') :
    (Code.region 4 ops4 true).wpIn (Fence.wide.inRound l) n Tryz.prog Q a W3 := by
  refine wpIn_region_any (by kernel_rfl) ?_
  refine any_inv (I4 n₀ B1 B4 x0 x1 x2 y0 y1 y2 W3) (fun _ _ _ h => h.sz.trans rfl) (fun listed a w i h hr => step4 h hB i (ready_lt hr) hr) (fun listed a w h hr => ?_) _ _ _ _ ?_ ?_
  · have hall := all_listed h.sz hr
    have hs := h.sum
    rw [hall 16 (by decide), hall 18 (by decide), hall 20 (by decide)] at hs
    exact hQ _ _ hs h.ko h.be
  · refine ⟨by rfl, hz, h2, h4, fun i d hi _ hl => ?_, fun i d _ hl => ?_, bS, bX, ⟨Nat.le_refl _, fun b o h _ => h⟩, (Below.refl n₀ W3).drew⟩
    · exact absurd hl (by rw [show (Array.replicate ops4.size false).getD i false = false by simp [Array.getD]]; decide)
    · exact absurd hl (by rw [show (Array.replicate ops4.size false).getD i false = false by simp [Array.getD]]; decide)
  · exact Nat.le_of_eq (by rfl)
end
end Go.Proofs.YtolpadbdjhmfgaaGreatDoor
/- Chapter 8: a selector's specificity, from what its simple selectors come to. -/
set_option linter.unusedVariables false
namespace Go.Proofs.YtolpadbdjhmfgaaGreatDoor
open Go.Proofs Go.RowKit Go.Shelf
attribute [local go_sem] Oper.semAt_some
def Hid1 (p : Prop) : Prop := p
theorem simples_in (F : Fence) (n : Nat) (h17 : F.fn 85) (hro : F.round = none) (a : Option Addr) (len cap : Nat) (w : World) :
    CallsIn F n Tryz.prog 85 #[.slice a len cap] w fun e w' => e = .returned (.func (.func 113) #[] #[.pointer (some ⟨w.heap.size, 0, none⟩)]) ∧ w' = w.alloc (.cells #[.slice a len cap] 52) := by
  refine callsIn_of_wp Tryz.func85 rfl h17 ?_ hro
  simp only [Tryz.ntmps85, List.size_toArray, List.length_cons, List.length_nil, Nat.reduceAdd, Nat.reduceSub, Array.replicate_succ, Array.replicate_zero, List.push_toArray, List.append_toArray, List.nil_append, List.cons_append]
  gi_wp2
  go_ret
  exact ⟨rfl, rfl⟩
set_option maxRecDepth 100000 in
set_option maxHeartbeats 4000000 in
theorem spec_any (w : World) (N : Nat) (cs : Fin N → Sm) (comb : Int) (b2 o2 c2 b3 o3 c3 : Nat) (hN : N ≤ 1000000) (hN3 : N ≤ c3) (h1c : 1 ≤ c2) (hb2 : b2 < w.heap.size) (hb3 : b3 < w.heap.size)
    (hc2 : w.cell? ⟨b2, o2, none⟩ = some (.int .i64 comb)) (hc3 : w.cell? ⟨b2, o2 + 1, none⟩ = some (.slice (some ⟨b3, o3, none⟩) N c3))
    (hc4 : ∀ (i : Fin N) (j : Nat), j < 11 → w.cell? ⟨b3, o3 + i.1 * 11 + j, none⟩ = (cs i).cells[j]?) (o : Fin N → Int × Int × Int)
    (hone : ∀ (i : Fin N) (W : World), Below w.heap.size w W → Calls Tryz.prog 86 #[(cs i).val] W fun e W' => e = .returned (.agg (spV (o i))) ∧ Below W.heap.size W W') :
    Calls Tryz.prog 57 #[.agg #[.slice (some ⟨b2, o2, none⟩) 1 c2]] w fun e W' => e = .returned (.agg (spV (sumS o (List.finRange N)))) ∧ Below w.heap.size w W' := by
  refine (callsIn_wide (n := 9)).1 ?_
  refine callsIn_of_wp_marks Tryz.func57 rfl trivial ?_ rfl
  simp only [Tryz.ntmps57, List.size_toArray, List.length_cons, List.length_nil, Nat.reduceAdd, Nat.reduceSub, Array.replicate_succ, Array.replicate_zero, List.push_toArray, List.append_toArray, List.nil_append, List.cons_append]
  gi_wp2_with (refine ⟨trivial, ?_⟩; gi_at_call 85; refine (simples_in Fence.wide _ trivial rfl _ _ _ _).mono ?_; rintro e w' ⟨rfl, rfl⟩)
  have bS := ((BoxR.new (w.alloc (.cells #[.slice (some ⟨b2, o2, none⟩) 1 c2] 120)) 23 #[.int .i64 0, .int .i64 0, .int .i64 0]).alloc (.cells #[.slice (some ⟨b2, o2, none⟩) 1 c2] 120)).alloc (.cells #[.slice (some ⟨w.heap.size + 1 + 1, 0, none⟩) 1 1] 52)
  have bL := (BoxR.new ((w.alloc (.cells #[.slice (some ⟨b2, o2, none⟩) 1 c2] 120)).alloc (.cells #[.int .i64 0, .int .i64 0, .int .i64 0] 23)) 120 #[.slice (some ⟨b2, o2, none⟩) 1 c2]).alloc (.cells #[.slice (some ⟨w.heap.size + 1 + 1, 0, none⟩) 1 1] 52)
  have bB := BoxR.new (((w.alloc (.cells #[.slice (some ⟨b2, o2, none⟩) 1 c2] 120)).alloc (.cells #[.int .i64 0, .int .i64 0, .int .i64 0] 23)).alloc (.cells #[.slice (some ⟨b2, o2, none⟩) 1 c2] 120)) 52 #[.slice (some ⟨w.heap.size + 1 + 1, 0, none⟩) 1 1]
  have hB0 : Below w.heap.size w ((((w.alloc (.cells #[.slice (some ⟨b2, o2, none⟩) 1 c2] 120)).alloc (.cells #[.int .i64 0, .int .i64 0, .int .i64 0] 23)).alloc (.cells #[.slice (some ⟨b2, o2, none⟩) 1 c2] 120)).alloc (.cells #[.slice (some ⟨w.heap.size + 1 + 1, 0, none⟩) 1 1] 52)) :=
    ((((Below.refl _ w).alloc (Nat.le_refl _) _).alloc (by simp) _).alloc (by simp; omega) _).alloc (by simp; omega) _
  have hsz : ((((w.alloc (.cells #[.slice (some ⟨b2, o2, none⟩) 1 c2] 120)).alloc (.cells #[.int .i64 0, .int .i64 0, .int .i64 0] 23)).alloc (.cells #[.slice (some ⟨b2, o2, none⟩) 1 c2] 120)).alloc (.cells #[.slice (some ⟨w.heap.size + 1 + 1, 0, none⟩) 1 1] 52)).heap.size = w.heap.size + 4 := by simp
  simp only [World.size_alloc] at bS bL bB
  obtain ⟨W0, hW0⟩ : ∃ W0, ((((w.alloc (.cells #[.slice (some ⟨b2, o2, none⟩) 1 c2] 120)).alloc (.cells #[.int .i64 0, .int .i64 0, .int .i64 0] 23)).alloc (.cells #[.slice (some ⟨b2, o2, none⟩) 1 c2] 120)).alloc (.cells #[.slice (some ⟨w.heap.size + 1 + 1, 0, none⟩) 1 1] 52)) = W0 := ⟨_, rfl⟩
  rw [hW0] at bS bL bB hB0 hsz ⊢
  clear hW0
  have f2 := (hB0.cell (p := ⟨b2, o2, none⟩) hb2).trans hc2
  have f3 := (hB0.cell (p := ⟨b2, o2 + 1, none⟩) hb2).trans hc3
  have f4 : ∀ (i : Fin N) (j : Nat), j < 11 → W0.cell? ⟨b3, o3 + i.1 * 11 + j, none⟩ = (cs i).cells[j]? := fun i j hj => (hB0.cell (p := ⟨b3, o3 + i.1 * 11 + j, none⟩) hb3).trans (hc4 i j hj)
  refine wpIn_rangeFunc_ownH (F := Fence.wide) (n := 9) rfl (by omega) (gf := 113) (lb := #[.pointer (some ⟨w.heap.size + 1 + 1 + 1, 0, none⟩)]) rfl trivial (enters_of Tryz.func113 (by kernel_rfl) rfl)
    (simples_stops Fence.wide 8 trivial rfl (by omega) (w.heap.size + 1 + 1 + 1) w.heap.size N cs (w.heap.size + 1 + 1) 0 1 b2 o2 c2 b3 o3 c3 comb hb2 hb3 hN hN3 W0 (by omega) (by omega) (by omega) (bB.cell 0) (bL.cell 0) f2 f3 f4) belowK_t (belowK_b (by omega)) (Below.refl _ _) (fun _ => rfl)
    (fun pre W => BoxR W (w.heap.size + 1) 23 (spV (sumS o pre)) ∧ Below w.heap.size w W)
    (fun _ _ _ => False)
    (OwnFrom.and (Own.from (boxR_own _ _ _) _) (ownFrom_below (Nat.le_refl _) (by omega)))
    (fun _ _ _ _ _ hs _ _ => hs)
    ⟨bS, hB0⟩
    (fun x a' W => ∃ Bx, w.heap.size + 1 < Bx ∧ BoxR W Bx 159 (cs x).cells.toArray ∧ a' = { tmps := #[.agg #[.slice (some ⟨b2, o2, none⟩) 1 c2], .pointer (some ⟨w.heap.size, 0, none⟩), .pointer (some ⟨w.heap.size + 1, 0, none⟩), .pointer (some ⟨Bx, 0, none⟩), undef, .agg #[.slice (some ⟨b2, o2, none⟩) 1 c2], .slice (some ⟨w.heap.size + 1 + 1, 0, none⟩) 1 1, .func (.func 113) #[] #[.pointer (some ⟨w.heap.size + 1 + 1 + 1, 0, none⟩)], (cs x).val, undef, undef, undef, undef, undef, undef, undef, undef, undef, undef, undef, undef, undef, undef, undef, undef, undef, undef, undef, undef, undef], defers := [] })
    (fun x a' _ X Y row hs hg hr => by obtain ⟨Bx, h1, h2, h3⟩ := hs; exact ⟨Bx, h1, boxR_own Bx 159 (fun (_ : Unit) => (cs x).cells.toArray) () X Y row h2 hg (fun r e => (hr r e).2), h3⟩)
    ?assign ?body ?done ?stop
  case assign =>
    rintro l pre x W K ⟨bS1, hB1⟩ hK
    have hK' := hK
    dsimp only [Sm.val, Sm.cells] at hK'
    dsimp only [Sm.val]
    gi_wp2
    exact hK' _ _ ((KeepsOthers.alloc _ _).from _) ((Below.refl _ W).alloc hB1.size _) ⟨bS1.alloc _, hB1.alloc hB1.size _⟩ ⟨W.heap.size, bS1.lt, BoxR.new W 159 _, rfl⟩
  case body =>
    rintro l pre x a' W hl ⟨r, hr⟩ ⟨bS1, hB1⟩ ⟨Bx, hBx, bX, rfl⟩ hlt
    have x0 : W.cell? ⟨Bx, 0, none⟩ = some (.int .i64 (cs x).kind) := bX.cell 0
    have x1 : W.cell? ⟨Bx, 1, none⟩ = some (.int .i64 (cs x).ns) := bX.cell 1
    have x2 : W.cell? ⟨Bx, 2, none⟩ = some (.string (cs x).pre) := bX.cell 2
    have x3 : W.cell? ⟨Bx, 3, none⟩ = some (.string (cs x).nm) := bX.cell 3
    have x4 : W.cell? ⟨Bx, 4, none⟩ = some (.int .i64 (cs x).op) := bX.cell 4
    have x5 : W.cell? ⟨Bx, 5, none⟩ = some (.string (cs x).tx) := bX.cell 5
    have x6 : W.cell? ⟨Bx, 6, none⟩ = some (.bool (cs x).fold) := bX.cell 6
    have x7 : W.cell? ⟨Bx, 7, none⟩ = some (.int .i64 (cs x).mark) := bX.cell 7
    have x8 : W.cell? ⟨Bx, 8, none⟩ = some (.int .i64 (cs x).a) := bX.cell 8
    have x9 : W.cell? ⟨Bx, 9, none⟩ = some (.int .i64 (cs x).b) := bX.cell 9
    have x10 : W.cell? ⟨Bx, 10, none⟩ = some (.slice (cs x).of_ (cs x).n (cs x).c) := bX.cell 10
    have hO := hone x W hB1
    dsimp only [Sm.val, spV] at hO
    gi_wp2_with (refine ⟨trivial, ?_⟩; gi_at_call 86; refine (CallsIn.inRound l (callsIn_wide.2 hO)).mono ?_; rintro e W2 ⟨rfl, hb2'⟩; have bS2 := bS1.below hb2' bS1.lt; have s0 : W2.cell? ⟨w.heap.size + 1, 0, none⟩ = some (.int .i64 (sumS o pre).1) := bS2.cell 0; have s1 : W2.cell? ⟨w.heap.size + 1, 1, none⟩ = some (.int .i64 (sumS o pre).2.1) := bS2.cell 1; have s2 : W2.cell? ⟨w.heap.size + 1, 2, none⟩ = some (.int .i64 (sumS o pre).2.2) := bS2.cell 2)
    have b4 := BoxR.new W2 23 #[.int .i64 (o x).1, .int .i64 (o x).2.1, .int .i64 (o x).2.2]
    have bS3 := bS2.alloc (.cells #[.int .i64 (o x).1, .int .i64 (o x).2.1, .int .i64 (o x).2.2] 23)
    have hB3 : Below W.heap.size W (W2.alloc (.cells #[.int .i64 (o x).1, .int .i64 (o x).2.1, .int .i64 (o x).2.2] 23)) := hb2'.alloc hb2'.size _
    have hne : w.heap.size + 1 < W2.heap.size := Nat.lt_of_lt_of_le bS1.lt hb2'.size
    generalize W2.heap.size = B4 at *
    obtain ⟨W3, hW3⟩ : ∃ W3, W2.alloc (.cells #[.int .i64 (o x).1, .int .i64 (o x).2.1, .int .i64 (o x).2.2] 23) = W3 := ⟨_, rfl⟩
    rw [hW3] at b4 bS3 hB3 ⊢
    clear hW3 s0 s1 s2 x0 x1 x2 x3 x4 x5 x6 x7 x8 x9 x10 hO bX bS2 hb2'
    refine reg4_in (n₀ := w.heap.size) (B1 := w.heap.size + 1) (B4 := B4) ⟨Nat.le_succ _, by omega⟩ rfl rfl rfl bS3 b4 (fun a' w' hS hk hb => ?_)
    refine ⟨?_, (hB3.mono hB1.size).trans hb, ?_, hB1.trans ((hB3.mono hB1.size).trans hb)⟩
    · exact ((keeps_below hB3).trans hk).from _
    · rw [sumS_snoc]
      exact hS
  case done =>
    rintro D ys W hD rfl ⟨bS1, hB1⟩ hK
    have hDn : D ≠ w.heap.size + 1 := by omega
    have s0 : W.cell? ⟨w.heap.size + 1, 0, none⟩ = some (.int .i64 (sumS o (List.finRange N)).1) := bS1.cell 0
    have s1 : W.cell? ⟨w.heap.size + 1, 1, none⟩ = some (.int .i64 (sumS o (List.finRange N)).2.1) := bS1.cell 1
    have s2 : W.cell? ⟨w.heap.size + 1, 2, none⟩ = some (.int .i64 (sumS o (List.finRange N)).2.2) := bS1.cell 2
    have t0 := bS1.frozen 0
    have t1 := bS1.frozen 1
    have t2 := bS1.frozen 2
    obtain ⟨S, hSS⟩ : ∃ S, Hid1 (S = sumS o (List.finRange N)) := ⟨_, rfl⟩
    rw [← (show S = _ from hSS)] at s0 s1 s2 bS1
    gi_wp2
    have bW := ((bS1.set 0 (.int .i64 S.1)).set 1 (.int .i64 S.2.1)).set 2 (.int .i64 S.2.2)
    have hBW := ((hB1.setCell (p := ⟨w.heap.size + 1, 0, none⟩) (Nat.le_succ _) (.int .i64 S.1)).setCell (p := ⟨w.heap.size + 1, 1, none⟩) (Nat.le_succ _) (.int .i64 S.2.1)).setCell (p := ⟨w.heap.size + 1, 2, none⟩) (Nat.le_succ _) (.int .i64 S.2.2)
    have hKW : (((W.setCell ⟨w.heap.size + 1, 0, none⟩ (.int .i64 S.1)).setCell ⟨w.heap.size + 1, 1, none⟩ (.int .i64 S.2.1)).setCell ⟨w.heap.size + 1, 2, none⟩ (.int .i64 S.2.2)).heap[D]? = some (.deferred (some [])) := by
      simp [World.setCell, Array.getElem?_modify, Ne.symm hDn, hK]
    generalize ((W.setCell ⟨w.heap.size + 1, 0, none⟩ (.int .i64 S.1)).setCell ⟨w.heap.size + 1, 1, none⟩ (.int .i64 S.2.1)).setCell ⟨w.heap.size + 1, 2, none⟩ (.int .i64 S.2.2) = W9 at *
    refine ⟨by simp, .inl ⟨_, _, rfl, run_takeDeferred hKW, ?_⟩⟩
    have bP : BoxR (W9.putObj D (.deferred none)) (w.heap.size + 1) 23 (spV S) := (show BoxR W9 _ 23 (spV S) from bW).kept (grownBy_putObj' _ _ _) (fun e => hDn (Option.some.inj e).symm)
    have p0 : (W9.putObj D (.deferred none)).cell? ⟨w.heap.size + 1, 0, none⟩ = some (.int .i64 S.1) := bP.cell 0
    have p1 : (W9.putObj D (.deferred none)).cell? ⟨w.heap.size + 1, 1, none⟩ = some (.int .i64 S.2.1) := bP.cell 1
    have p2 : (W9.putObj D (.deferred none)).cell? ⟨w.heap.size + 1, 2, none⟩ = some (.int .i64 S.2.2) := bP.cell 2
    refine ⟨.agg (spV S), ?_, by rw [show S = _ from hSS], hBW.trans (belowK_b (w := w) (Nat.le_refl _) W9 D _ _ (by omega) hKW rfl rfl)⟩
    generalize W9.putObj D (.deferred none) = W10 at *
    unfold spV
    simp [results, go_sem, p0, p1, p2, Tryz.f57]
  case stop =>
    rintro D c pre W _ _ h _
    exact h.elim
end Go.Proofs.YtolpadbdjhmfgaaGreatDoor
/- Chapter 8: the example of the document (speaks), by the evaluator and the walk of Spec. -/
set_option linter.unusedVariables false
set_option maxRecDepth 100000
namespace Go.Av
open Go.Proofs Go.RowKit Go.Proofs.YtolpadbdjhmfgaaGreatDoor
def cplx (ss : List D) : D := .agg [.list [.agg [.int .i64 0, .list ss]]]
def smp (k : Int) (nm : List UInt8) (of_ : List D) : D := .agg [.int .i64 k, .int .i64 0, .str [], .str nm, .int .i64 0, .str [], .bool false, .int .i64 0, .int .i64 0, .int .i64 0, .list of_]
def spD (a b c : Int) : D := .agg [.int .i64 a, .int .i64 b, .int .i64 c]
/-- A selector of one simple selector, an id or a type. -/
def leafK : D → Option (Int × List UInt8)
  | .agg [.list [.agg [.int .i64 0, .list [.agg [.int .i64 k, .int .i64 0, .str [], .str nm, .int .i64 0, .str [], .bool false, .int .i64 0, .int .i64 0, .int .i64 0, .list []]]]]] => some (k, nm)
  | _ => none
def ext81 : Call := fun f args pbs => match f, args, pbs with
  | 57, [x], [] => (match leafK x with
    | some (k, nm) => if k = 4 then some (spD 1 0 0, [], []) else if k = 1 then some (spD 0 0 1, [], []) else none
    | none => none)
  | _, _, _ => none
def topD : D := cplx [smp 1 [97] [], smp 8 [] [cplx [smp 4 [98] []], cplx [smp 1 [99] []]], smp 3 [100] []]
theorem one4 (nm : List UInt8) : aev Tryz.prog noExt 60 86 [smp 4 nm []] [] = some (spD 1 0 0, [.no], []) := by kernel_rfl
theorem leafK_eq {x : D} {k : Int} {nm : List UInt8} (h : leafK x = some (k, nm)) : x = cplx [smp k nm []] := by
  unfold leafK at h
  split at h
  · simp only [Option.some.injEq, Prod.mk.injEq] at h
    obtain ⟨rfl, rfl⟩ := h
    rfl
  · cases h
/-- The form of a list in memory, and its cells. -/
theorem list_form {F : Nat → Nat → Prop} {w : World} {v : Value} {es : List D} {sz : Nat} (hd : Den0 F w v (.list es)) (hs : ∀ e ∈ es, (dcells e).length = sz) (hne : es ≠ []) :
    ∃ b off c, v = .slice (some ⟨b, off, none⟩) es.length c ∧ es.length ≤ c ∧ ∀ (i j : Nat) (x : D) (y : D), es[i]? = some x → (dcells x)[j]? = some y → ∃ u, w.cell? ⟨b, off + (i * sz + j), none⟩ = some u ∧ Den0 F w u y ∧ u.oneCell' = true := by
  cases hd with
  | list a n c sz' es vs h1 h2 h3 h4 h5 h6 h7 =>
    subst h1
    obtain ⟨e0, r0, rfl⟩ := List.exists_cons_of_ne_nil hne
    have hsz : sz' = sz := (h4 e0 (by simp)).symm.trans (hs e0 (by simp))
    subst hsz
    rcases h6 with h6 | ⟨b, off, ha, hc⟩
    · rw [h6] at h5
      simp only [List.length_nil, List.length_cons] at h5
      have : 0 < (r0.length + 1) * sz' := Nat.mul_pos (by omega) h3
      omega
    · subst ha
      refine ⟨b, off, c, rfl, h2, fun i j x y hi hj => ?_⟩
      have hjl : j < sz' := by rw [← h4 x (List.mem_of_getElem? hi)]; exact (List.getElem?_eq_some_iff.1 hj).1
      have hil : i < (e0 :: r0).length := (List.getElem?_eq_some_iff.1 hi).1
      have hf := flat_at h4 hi j hjl
      rw [hj] at hf
      have hb : i * sz' + j < vs.length := by
        rw [h5]
        calc i * sz' + j < i * sz' + sz' := by omega
          _ = (i + 1) * sz' := by rw [Nat.succ_mul]
          _ ≤ _ := Nat.mul_le_mul_right _ hil
      have hv : vs[i * sz' + j]? = some vs[i * sz' + j] := List.getElem?_eq_getElem hb
      exact ⟨_, (hc _ _ hv).2.1, h7 _ _ _ hv hf, (hc _ _ hv).2.2⟩
theorem ext_old {F : Nat → Nat → Prop} {w : World} (h : Lt F w) : Ext (fun _ => False) F w (old w) w :=
  ⟨rfl, rfl, rfl, Nat.le_refl _, fun _ _ _ => rfl, fun b o hf => h b o hf, fun _ _ _ => rfl, fun _ _ _ _ h => h⟩
theorem ext_below {w w' : World} (hb : Below w.heap.size w w') : Ext (fun _ => False) (old w) w (old w') w' := by
  refine ⟨hb.os, hb.tape, hb.output, hb.size, fun b h _ => hb.block b h, fun b o h => Nat.lt_of_lt_of_le h hb.size, fun b o h => ?_, fun b es c hf hm => (hb.block b hf).trans hm⟩
  unfold World.cell?
  rw [hb.block b h]
/-- A simple selector's shape. -/
def isSm : D → Bool
  | .agg [.int .i64 _, .int .i64 _, .str _, .str _, .int .i64 _, .str _, .bool _, .int .i64 _, .int .i64 _, .int .i64 _, .list _] => true
  | _ => false
theorem isSm_len {d : D} (h : isSm d = true) : (dcells d).length = 11 := by
  unfold isSm at h
  split at h
  · rfl
  · cases h
theorem sm_of {F : Nat → Nat → Prop} {w : World} {d : D} (hs : isSm d = true) {b off : Nat} (hc : ∀ (j : Nat) (y : D), (dcells d)[j]? = some y → ∃ u, w.cell? ⟨b, off + j, none⟩ = some u ∧ Den0 F w u y ∧ u.oneCell' = true) :
    ∃ s : Sm, (∀ j, j < 11 → w.cell? ⟨b, off + j, none⟩ = s.cells[j]?) ∧ Den0 F w s.val d := by
  unfold isSm at hs
  split at hs
  · rename_i k ns pre nm op tx fold mark a b' of_
    obtain ⟨u0, e0, d0, _⟩ := hc 0 _ rfl
    obtain ⟨u1, e1, d1, _⟩ := hc 1 _ rfl
    obtain ⟨u2, e2, d2, _⟩ := hc 2 _ rfl
    obtain ⟨u3, e3, d3, _⟩ := hc 3 _ rfl
    obtain ⟨u4, e4, d4, _⟩ := hc 4 _ rfl
    obtain ⟨u5, e5, d5, _⟩ := hc 5 _ rfl
    obtain ⟨u6, e6, d6, _⟩ := hc 6 _ rfl
    obtain ⟨u7, e7, d7, _⟩ := hc 7 _ rfl
    obtain ⟨u8, e8, d8, _⟩ := hc 8 _ rfl
    obtain ⟨u9, e9, d9, _⟩ := hc 9 _ rfl
    obtain ⟨u10, e10, d10, _⟩ := hc 10 _ rfl
    have d10' := d10
    cases d0; cases d1; cases d2; cases d3; cases d4; cases d5; cases d6; cases d7; cases d8; cases d9
    cases d10 with
    | list A n c sz es vs h1 h2 h3 h4 h5 h6 h7 =>
      refine ⟨⟨k, ns, ⟨pre.toArray⟩, ⟨nm.toArray⟩, op, ⟨tx.toArray⟩, fold, mark, a, b', A, n, c⟩, fun j hj => ?_, ?_⟩
      · match j, hj with
        | 0, _ => exact e0
        | 1, _ => exact e1
        | 2, _ => exact e2
        | 3, _ => exact e3
        | 4, _ => exact e4
        | 5, _ => exact e5
        | 6, _ => exact e6
        | 7, _ => exact e7
        | 8, _ => exact e8
        | 9, _ => exact e9
        | 10, _ => exact e10
      · refine Den0.agg [.int .i64 k, .int .i64 ns, .string ⟨pre.toArray⟩, .string ⟨nm.toArray⟩, .int .i64 op, .string ⟨tx.toArray⟩, .bool fold, .int .i64 mark, .int .i64 a, .int .i64 b', .slice A n c] _ rfl ?_ ?_
        · intro v hv
          simp only [List.mem_cons, List.not_mem_nil, or_false] at hv
          rcases hv with rfl | rfl | rfl | rfl | rfl | rfl | rfl | rfl | rfl | rfl | rfl <;> rfl
        · intro i v x hv hx
          match i with
          | 0 => simp at hv hx; subst hv; subst hx; exact .int _ _
          | 1 => simp at hv hx; subst hv; subst hx; exact .int _ _
          | 2 => simp at hv hx; subst hv; subst hx; exact .str _
          | 3 => simp at hv hx; subst hv; subst hx; exact .str _
          | 4 => simp at hv hx; subst hv; subst hx; exact .int _ _
          | 5 => simp at hv hx; subst hv; subst hx; exact .str _
          | 6 => simp at hv hx; subst hv; subst hx; exact .bool _
          | 7 => simp at hv hx; subst hv; subst hx; exact .int _ _
          | 8 => simp at hv hx; subst hv; subst hx; exact .int _ _
          | 9 => simp at hv hx; subst hv; subst hx; exact .int _ _
          | 10 => simp at hv hx; subst hv; subst hx; exact d10'
          | i + 11 => simp at hv
  · cases hs
/-- Spec at a selector of one compound. -/
theorem spec_den (w : World) (v : Value) (ss : List D) (hd : Den0 (old w) w v (cplx ss)) (hs : ∀ s ∈ ss, isSm s = true) (hne : ss ≠ []) (hN : ss.length ≤ 1000000) (o : Fin ss.length → Int × Int × Int)
    (hone : ∀ (i : Fin ss.length) (W : World) (u : Value), Below w.heap.size w W → Den0 (old W) W u ss[i] → Calls Tryz.prog 86 #[u] W fun e W' => e = .returned (.agg (spV (o i))) ∧ Below W.heap.size W W') :
    Calls Tryz.prog 57 #[v] w fun e W' => e = .returned (.agg (spV (sumS o (List.finRange ss.length)))) ∧ Below w.heap.size w W' := by
  unfold cplx at hd
  cases hd with
  | agg vs cs h1 h2 h3 =>
    match vs, h1 with
    | [L], _ =>
      have dL := h3 0 L _ rfl rfl
      obtain ⟨b2, o2, c2, rfl, hc2, hcell⟩ := list_form (sz := 2) dL (by simp [dcells]) (by simp)
      obtain ⟨u0, e0, d0, _⟩ := hcell 0 0 _ (.int .i64 0) rfl rfl
      obtain ⟨u1, e1, d1, _⟩ := hcell 0 1 _ (.list ss) rfl rfl
      cases d0
      obtain ⟨b3, o3, c3, rfl, hc3, hcell3⟩ := list_form (sz := 11) d1 (fun s h => isSm_len (hs s h)) hne
      have hS : ∀ i : Fin ss.length, ∃ s : Sm, (∀ j, j < 11 → w.cell? ⟨b3, o3 + i.1 * 11 + j, none⟩ = s.cells[j]?) ∧ Den0 (old w) w s.val ss[i] := fun i =>
        sm_of (hs _ (List.getElem_mem i.2)) (fun j y hy => by
          have := hcell3 i.1 j ss[i] y (List.getElem?_eq_getElem i.2) hy
          rw [← Nat.add_assoc] at this
          exact this)
      have hb2 : b2 < w.heap.size := cell_old e1
      have hb3 : b3 < w.heap.size := by
        have hpos : 0 < ss.length := List.length_pos_iff.2 hne
        obtain ⟨s, h4, _⟩ := hS ⟨0, hpos⟩
        have := h4 0 (by decide)
        exact cell_old (this.trans rfl)
      exact spec_any w ss.length (fun i => Classical.choose (hS i)) 0 b2 o2 c2 b3 o3 c3 hN hc3 hc2 hb2 hb3 (by simpa using e0) (by simpa using e1) (fun i j hj => (Classical.choose_spec (hS i)).1 j hj) o
        (fun i W hB => hone i W _ hB ((Classical.choose_spec (hS i)).2.ext (ext_below hB)))
end Go.Av
/- Chapter 8: what is known of Spec at the example's selectors; the example is true. -/
set_option linter.unusedVariables false
set_option maxRecDepth 100000
namespace Go.Av
open Go.Proofs Go.RowKit Go.Proofs.YtolpadbdjhmfgaaGreatDoor
theorem ret_below [Gs] {P : Program} {μ : Mu} {F : Nat → Nat → Prop} {w w' : World} {v : Value} {d : D} (hv : Den0 F w' v d) (hlt : Lt F w) (hb : Below w.heap.size w w') : Ret P 0 μ F w d [] [] (.returned v) w' := by
  refine ⟨v, F, fun _ _ => none, rfl, ?_, fun b o hf => Nat.lt_of_lt_of_le (hlt b o hf) hb.size, fun b o hf => .inl hf, .inl ⟨rfl, fun c' ν => .pure _ _ hv, rooms_nil⟩, fun j i g h => ?_, fun j i j' i' g h => ?_, fun i bx hi => absurd hi (Nat.not_lt_zero i)⟩
  · refine ⟨hb.os, hb.tape, hb.output, hb.size, fun b hb1 _ => hb.block b hb1, fun b o hf => hf, fun b o hf => ?_, fun b es c hf hm => (hb.block b (hlt b 0 hf)).trans hm⟩
    unfold World.cell?
    rw [hb.block b (hlt b o hf)]
  · cases h
  · cases h
theorem gok_ext {S : Nat → Prop} {F F' : Nat → Nat → Prop} {w w' : World} (h : Ext S F w F' w') (hg : GOK F w) : GOK F' w' :=
  ⟨fun g => (hg.1 g).imp id fun d => d.ext h, fun x hx => by
    obtain ⟨d, h1, h2⟩ := hg.2 x hx
    exact ⟨d, h1, h2.ext h⟩⟩
/-- A call by the evaluator, of one argument, that hands back a plain value. -/
theorem call1 {ext : Call} (hext : CallOK Tryz.prog ext) {f N : Nat} {x d : D} {r : List Room} (ev : aev Tryz.prog ext N f [x] [] = some (d, r, [])) {W : World} {u : Value} (hg : GOK (old W) W) (hu : Den0 (old W) W u x) :
    Calls Tryz.prog f #[u] W fun e W' => (∃ v, e = .returned v ∧ ∀ c ν, Den c ν (old W') W' v d) ∧ Below W.heap.size W W' := by
  obtain ⟨_, h⟩ := aev_sound fineS hext N f [x] [] _ _ _ ev
  refine (h [u] W (old W) mu0 rfl (fun i v y h1 h2 => by
    match i with
    | 0 => simp at h1 h2; subst h1; subst h2; exact .pure _ _ hu
    | i + 1 => simp at h1) (fun i bx hb => by simp at hb) (given0 W) (old_lt W) hg).mono ?_
  rintro e w' ⟨v, F', ncl, rfl, hE, hlt, _, hv, _⟩
  refine ⟨⟨v, rfl, ?_⟩, ⟨hE.os, hE.tape, hE.output, hE.size, fun b hb => hE.block b hb (S_zero _ b)⟩⟩
  rcases hv with ⟨_, hv, _⟩ | ⟨h1, _⟩
  · exact fun c ν => (hv c ν).ext (S := fun _ => False) ⟨rfl, rfl, rfl, Nat.le_refl _, fun _ _ _ => rfl, fun b o hf => hlt b o hf, fun _ _ _ => rfl, fun _ _ _ _ h => h⟩
  · simp at h1
theorem den_sp {c : Nat → Nat} {ν : Nat → Nat → Nat} {F : Nat → Nat → Prop} {w : World} {v : Value} {x y z : Int} (h : Den c ν F w v (spD x y z)) : v = .agg (spV (x, y, z)) := by
  have key : ∀ (vs : List Value), vs.length = 3 → (∀ (i : Nat) (v : Value) (d : D), vs[i]? = some v → ([D.int .i64 x, .int .i64 y, .int .i64 z] : List D)[i]? = some d → Den c ν F w v d) → vs.toArray = spV (x, y, z) := by
    intro vs hl hh
    match vs, hl with
    | [u0, u1, u2], _ =>
      have h0 := (hh 0 u0 _ rfl rfl).int_
      have h1 := (hh 1 u1 _ rfl rfl).int_
      have h2 := (hh 2 u2 _ rfl rfl).int_
      subst h0 h1 h2
      rfl
  unfold spD at h
  cases h with
  | pure v d hp =>
    cases hp with
    | agg vs cs h1 h2 h3 => rw [key vs h1 fun i v d a b => .pure _ _ (h3 i v d a b)]
  | agg vs cs h1 h2 h3 => rw [key vs h1 h3]
theorem sp_den {F : Nat → Nat → Prop} {w : World} (x y z : Int) : Den0 F w (.agg (spV (x, y, z))) (spD x y z) := by
  refine Den0.agg [.int .i64 x, .int .i64 y, .int .i64 z] _ rfl ?_ ?_
  · intro v hv
    simp only [List.mem_cons, List.not_mem_nil, or_false] at hv
    rcases hv with rfl | rfl | rfl <;> rfl
  · intro i v d hv hx
    match i with
    | 0 => simp at hv hx; subst hv; subst hx; exact .int _ _
    | 1 => simp at hv hx; subst hv; subst hx; exact .int _ _
    | 2 => simp at hv hx; subst hv; subst hx; exact .int _ _
    | i + 3 => simp at hv
theorem one_calls {ext : Call} (hext : CallOK Tryz.prog ext) {x : D} {a b c : Int} {r : List Room} (ev : aev Tryz.prog ext 60 86 [x] [] = some (spD a b c, r, [])) {W : World} {u : Value} (hg : GOK (old W) W) (hu : Den0 (old W) W u x) :
    Calls Tryz.prog 86 #[u] W fun e W' => e = .returned (.agg (spV (a, b, c))) ∧ Below W.heap.size W W' := by
  refine (call1 hext ev hg hu).mono ?_
  rintro e w' ⟨⟨v, rfl, hv⟩, hb⟩
  exact ⟨by rw [den_sp (hv (fun _ => 0) fun _ _ => 0)], hb⟩
theorem one1 (nm : List UInt8) : aev Tryz.prog noExt 60 86 [smp 1 nm []] [] = some (spD 0 0 1, [.no], []) := by kernel_rfl
theorem den_one {c : Nat → Nat} {ν : Nat → Nat → Nat} {F : Nat → Nat → Prop} {w : World} {v : Value} {x : D} (h : Den c ν F w v (.agg [.list [x]])) : Den0 F w v (.agg [.list [x]]) := by
  cases h with
  | pure v d hp => exact hp
  | agg vs _ h1 h2 h3 =>
    refine .agg vs _ h1 h2 (fun i v d a b => ?_)
    match i with
    | 0 =>
      simp only [List.getElem?_cons_zero, Option.some.injEq] at b
      subst b
      exact (h3 0 v _ a rfl).list_
    | i + 1 => simp at b
theorem ext81_ok : CallOK Tryz.prog ext81 := by
  intro f args pbs d r pbs' h
  unfold ext81 at h
  split at h
  · rename_i x
    split at h
    · rename_i k nm hk
      have hx := leafK_eq hk
      subst hx
      have hgo : ∀ (a b c : Int) (r : List Room), aev Tryz.prog noExt 60 86 [smp k nm []] [] = some (spD a b c, r, []) → sumS (fun _ : Fin [smp k nm []].length => (a, b, c)) (List.finRange [smp k nm []].length) = (a, b, c) →
          (∃ fn, Tryz.prog.funcs[57]? = some fn ∧ fn.body.isSome = true) ∧ ∀ (vals : List Value) (w : World) (F : Nat → Nat → Prop) (μ : Mu), vals.length = [cplx [smp k nm []]].length → (∀ (i : Nat) (v : Value) (x : D), vals[i]? = some v → [cplx [smp k nm []]][i]? = some x → Den (fun _ => 1) (argNu μ) F w v x) →
            (∀ (i : Nat) (bx : Bx), ([] : List Bx)[i]? = some bx → BoxAt F w (μ.bl i) bx.cells ∧ bx.gen = 0 ∧ BRooms Tryz.prog F w (μ.bl i) bx.cells bx.rooms (μ.cl i)) → GivenOK w ([] : List Bx).length μ → Lt F w → GOK F w →
            Calls Tryz.prog 57 vals.toArray w (Ret Tryz.prog ([] : List Bx).length μ F w (spD a b c) [] []) := by
        intro a b c r' ev hsum
        refine ⟨⟨_, Tryz.func57, rfl⟩, fun vals w F μ hl hd _ _ hlt hg => ?_⟩
        match vals, hl with
        | [v], _ =>
          have d0 := (den_one (hd 0 v _ rfl rfl)).ext (ext_old hlt)
          have hgo := gok_ext (ext_old hlt) hg
          refine (spec_den w v [smp k nm []] d0 (fun s hs => by rw [List.mem_singleton.1 hs]; rfl) (by simp) (by simp) (fun _ => (a, b, c)) (fun i W u hB hu => ?_)).mono ?_
          · have hi : [smp k nm []][i] = smp k nm [] := by
              match i with
              | ⟨0, _⟩ => rfl
            rw [hi] at hu
            exact one_calls noExt_ok ev (gok_ext (ext_below hB) hgo) hu
          · rintro e w' ⟨rfl, hb⟩
            rw [hsum]
            exact ret_below (sp_den _ _ _) hlt hb
      split at h
      · rename_i h4
        subst h4
        simp only [Option.some.injEq, Prod.mk.injEq] at h
        obtain ⟨rfl, rfl, rfl⟩ := h
        exact hgo 1 0 0 _ (one4 nm) (by show sumS (fun _ : Fin 1 => _) (List.finRange 1) = _; kernel_rfl)
      · split at h
        · rename_i h1
          subst h1
          simp only [Option.some.injEq, Prod.mk.injEq] at h
          obtain ⟨rfl, rfl, rfl⟩ := h
          exact hgo 0 0 1 _ (one1 nm) (by show sumS (fun _ : Fin 1 => _) (List.finRange 1) = _; kernel_rfl)
        · cases h
    · cases h
  · cases h
end Go.Av
/- Chapter 21: all that is known of functions by other means; the example of the document. -/
namespace Go.Av
open Go.Proofs Go.RowKit Go.Proofs.YtolpadbdjhmfgaaGreatDoor
noncomputable def chkS (es : List D) : Bool := match aev Tryz.prog extCl 300 31 [.list es] [] with
  | some (.con .nilIface, _, []) => true
  | _ => false
theorem chkS_ok : ChkOK extCl chkS := by
  intro es _ h
  unfold chkS at h
  split at h
  · rename_i r he
    exact ⟨300, r, he⟩
  · cases h
noncomputable def ext21 : Call := orExt extCl (orExt (extNew chkS) ext81)
theorem ext21_ok : CallOK Tryz.prog ext21 := orExt_ok extCl_ok (orExt_ok (extNew_ok extCl_ok chkS_ok) ext81_ok)
end Go.Av
namespace Go.Av
open Go.Proofs
set_option maxRecDepth 100000
theorem speaks21 : aev Tryz.prog ext21 300 7 [] [] = some (.bool true, [.no], []) := by
  kernel_rfl
end Go.Av
/- Chapter 21: which weight comes ahead. -/
set_option linter.unusedSimpArgs false
set_option linter.unusedVariables false
set_option linter.unusedSectionVars false
set_option maxRecDepth 100000
namespace Go.Av
open Go.Proofs Go.RowKit
theorem wrapS (i : Nat) (h : i ≤ 1000000000000) : IntKind.i64.wrap ((i : Int) + 1) = ((i + 1 : Nat) : Int) := by rw [wrap64 _ (by omega) (by omega)]; omega
/-- Which of two numbers comes ahead. -/
def cmpF (a b : Int) : Int := if a < b then -1 else if a > b then 1 else 0
theorem nan_L (a : Int) : callL Tryz.prog ext21 47 [.int .i64 a] [] = some (.bool false, [.no], []) := by
  have h : (a != a) = false := by simp
  refine callK (m := 6) (res := [2]) (rs := [.tmp 2]) rfl Tryz.func47 rfl rfl rfl rfl rfl ?_
  repeat' (first
    | simp only [*, go_nil, go_seq, go_cond, go_block, go_blk, go_skip, go_exit, go_retc, go_xcode, go_xblk, go_loop, go_region, go_draw, go_ops_nil, go_dops_nil, go_ops, go_dops, okG_some, okB_some, gwD_bool, gwD_undef, cwD_bool, gw_true, gw_false, guardG_none, guardG, opG, opD, isPtr, inB, sval, stake, eats, eaters, get, cval, cval1, croom, St.taken, put_slot, put_room, put_box, put_ctr, put_none, dem_none, dem_slot, dem_box, dem_ctr, dem_room, dem_room1, setBox_slot, setBox_room, setBox_ctr, setBox_box, entry_slot, entry_room, entry_box, entry_ctr, endQ, endR, endV, rvars, rvar, room1, ↓reduceIte, Nat.reduceEqDiff, Nat.reduceLT, Nat.reduceLeDiff, reduceCtorEq, decide_true, decide_false, List.filterMap_cons, List.filterMap_nil, Option.bind_some, Option.map_some, Option.bind_none, Option.map_none, List.getElem?_cons_zero, List.getElem?_cons_succ, List.getD_cons_zero, List.getD_cons_succ, List.contains_cons, List.contains_nil, List.map_cons, List.map_nil, beq_self_eq_true, beq_iff_eq, Bool.or_false, Bool.false_or, Bool.or_true, Bool.true_or, Bool.and_true, Bool.true_and, Nat.reduceBEq, Bool.false_eq_true, dbin, dIntBin, okR, callG, endN, newV, rowS, frzS, frzOf_def, frz_nil, frz_cons, frzD, rowList, rowElem, stepRow, madeRow, isLocal, isAlloc, loadsOwn, ptrAt, beq_true, beq_false, Bool.not_true, Bool.not_false, pureB, leaf, leafN, List.all_cons, List.all_nil, List.nil_append, List.cons_append, List.append_nil, List.take_nil, List.range_zero, List.length_nil, List.length_cons, String.reduceBEq, Bool.true_beq, Bool.false_beq, List.find?_cons, List.find?_nil, dun, List.getElem?_nil, List.take_zero, List.drop_zero, List.take_succ_cons, List.drop_succ_cons, dcells, Nat.zero_add, Nat.reduceAdd, Nat.reduceSub, Nat.reduceMul, stepBox, Bool.and_false, Bool.false_and, and_true, true_and, List.zipWith, Option.getD_some, List.singleton_append, List.map_map, Int.natCast_nonneg, Int.toNat_natCast, and_self, Nat.mul_one, Nat.add_zero, if_true, St.freeze, false_or, or_true, true_or, or_false, szOk_cons, szOk_nil, List.cons.injEq, false_and, and_false, forall_const, List.getElem?_toArray, List.getElem_toArray, dopt, dbound, ge_iff_le, gt_iff_lt, dStrBin, List.take_length, plainR_s, Int.reduceLE, Int.reduceLT, Int.reduceToNat, Int.reduceBEq, Int.reduceBNe, isBar, optIn, allocKeys, takes, ptrArgs, callArgs, ptrIn_nil, ptrIn_int, ptrIn_bool, ptrIn_str, ptrIn_agg, ptrIn_list, ptrIn_fix, ptrIn_con, ptrIn_ptr, ptrIn1, ren, ren1, argOk, argOk1, given, oroom, putR, padR, clearR, vroom, nilR, Option.isSome_none, Option.isSome_some, stepTake, stepPtr, notAgg, ite_self, ty3, dp3, ty4, dp4, ty23, dp23, fa23_0, fp23_0, fa23_1, fp23_1, fa23_2, fp23_2, ty25, dp25, fa25_0, fp25_0, fa25_1, fp25_1, fa25_2, fp25_2, fa25_3, fp25_3, dp23_1_6, ty53, dp53, ia53, len53, bs53_2, bs53_3, frzOps_nil, neq23, neq25, eq23, eq25, Nat.le_refl, Nat.sub_self, Option.some.injEq]
    | (refine drW_intro (by kernel_rfl) ?_)
    | (refine gw_intro (fun h => ?_) (fun h => ?_) <;> (try simp only [beq_true, beq_false, Bool.not_eq_eq_eq_not, Bool.not_true, Bool.not_false, Bool.not_not, decide_eq_true_eq, decide_eq_false_iff_not, ge_iff_le, gt_iff_lt] at h)))
theorem cmp_L (a b : Int) : callL Tryz.prog ext21 24 [.int .i64 a, .int .i64 b] [] = some (.int .i64 (cmpF a b), [.no], []) := by
  have h1 := nan_L a
  have h2 := nan_L b
  refine callK (m := 20) (res := [4]) (rs := [.tmp 4]) rfl Tryz.func24 rfl rfl rfl rfl rfl ?_
  unfold cmpF
  by_cases c1 : a < b
  · repeat' (first
    | simp only [*, go_nil, go_seq, go_cond, go_block, go_blk, go_skip, go_exit, go_retc, go_xcode, go_xblk, go_loop, go_region, go_draw, go_ops_nil, go_dops_nil, go_ops, go_dops, okG_some, okB_some, gwD_bool, gwD_undef, cwD_bool, gw_true, gw_false, guardG_none, guardG, opG, opD, isPtr, inB, sval, stake, eats, eaters, get, cval, cval1, croom, St.taken, put_slot, put_room, put_box, put_ctr, put_none, dem_none, dem_slot, dem_box, dem_ctr, dem_room, dem_room1, setBox_slot, setBox_room, setBox_ctr, setBox_box, entry_slot, entry_room, entry_box, entry_ctr, endQ, endR, endV, rvars, rvar, room1, ↓reduceIte, Nat.reduceEqDiff, Nat.reduceLT, Nat.reduceLeDiff, reduceCtorEq, decide_true, decide_false, List.filterMap_cons, List.filterMap_nil, Option.bind_some, Option.map_some, Option.bind_none, Option.map_none, List.getElem?_cons_zero, List.getElem?_cons_succ, List.getD_cons_zero, List.getD_cons_succ, List.contains_cons, List.contains_nil, List.map_cons, List.map_nil, beq_self_eq_true, beq_iff_eq, Bool.or_false, Bool.false_or, Bool.or_true, Bool.true_or, Bool.and_true, Bool.true_and, Nat.reduceBEq, Bool.false_eq_true, dbin, dIntBin, okR, callG, endN, newV, rowS, frzS, frzOf_def, frz_nil, frz_cons, frzD, rowList, rowElem, stepRow, madeRow, isLocal, isAlloc, loadsOwn, ptrAt, beq_true, beq_false, Bool.not_true, Bool.not_false, pureB, leaf, leafN, List.all_cons, List.all_nil, List.nil_append, List.cons_append, List.append_nil, List.take_nil, List.range_zero, List.length_nil, List.length_cons, String.reduceBEq, Bool.true_beq, Bool.false_beq, List.find?_cons, List.find?_nil, dun, List.getElem?_nil, List.take_zero, List.drop_zero, List.take_succ_cons, List.drop_succ_cons, dcells, Nat.zero_add, Nat.reduceAdd, Nat.reduceSub, Nat.reduceMul, stepBox, Bool.and_false, Bool.false_and, and_true, true_and, List.zipWith, Option.getD_some, List.singleton_append, List.map_map, Int.natCast_nonneg, Int.toNat_natCast, and_self, Nat.mul_one, Nat.add_zero, if_true, St.freeze, false_or, or_true, true_or, or_false, szOk_cons, szOk_nil, List.cons.injEq, false_and, and_false, forall_const, List.getElem?_toArray, List.getElem_toArray, dopt, dbound, ge_iff_le, gt_iff_lt, dStrBin, List.take_length, plainR_s, Int.reduceLE, Int.reduceLT, Int.reduceToNat, Int.reduceBEq, Int.reduceBNe, isBar, optIn, allocKeys, takes, ptrArgs, callArgs, ptrIn_nil, ptrIn_int, ptrIn_bool, ptrIn_str, ptrIn_agg, ptrIn_list, ptrIn_fix, ptrIn_con, ptrIn_ptr, ptrIn1, ren, ren1, argOk, argOk1, given, oroom, putR, padR, clearR, vroom, nilR, Option.isSome_none, Option.isSome_some, stepTake, stepPtr, notAgg, ite_self, ty3, dp3, ty4, dp4, ty23, dp23, fa23_0, fp23_0, fa23_1, fp23_1, fa23_2, fp23_2, ty25, dp25, fa25_0, fp25_0, fa25_1, fp25_1, fa25_2, fp25_2, fa25_3, fp25_3, dp23_1_6, ty53, dp53, ia53, len53, bs53_2, bs53_3, frzOps_nil, neq23, neq25, eq23, eq25, Nat.le_refl, Nat.sub_self, Option.some.injEq]
    | (refine drW_intro (by kernel_rfl) ?_)
    | (refine gw_intro (fun h => ?_) (fun h => ?_) <;> (try simp only [beq_true, beq_false, Bool.not_eq_eq_eq_not, Bool.not_true, Bool.not_false, Bool.not_not, decide_eq_true_eq, decide_eq_false_iff_not, ge_iff_le, gt_iff_lt] at h)))
  · by_cases c2 : a > b
    · repeat' (first
    | simp only [*, go_nil, go_seq, go_cond, go_block, go_blk, go_skip, go_exit, go_retc, go_xcode, go_xblk, go_loop, go_region, go_draw, go_ops_nil, go_dops_nil, go_ops, go_dops, okG_some, okB_some, gwD_bool, gwD_undef, cwD_bool, gw_true, gw_false, guardG_none, guardG, opG, opD, isPtr, inB, sval, stake, eats, eaters, get, cval, cval1, croom, St.taken, put_slot, put_room, put_box, put_ctr, put_none, dem_none, dem_slot, dem_box, dem_ctr, dem_room, dem_room1, setBox_slot, setBox_room, setBox_ctr, setBox_box, entry_slot, entry_room, entry_box, entry_ctr, endQ, endR, endV, rvars, rvar, room1, ↓reduceIte, Nat.reduceEqDiff, Nat.reduceLT, Nat.reduceLeDiff, reduceCtorEq, decide_true, decide_false, List.filterMap_cons, List.filterMap_nil, Option.bind_some, Option.map_some, Option.bind_none, Option.map_none, List.getElem?_cons_zero, List.getElem?_cons_succ, List.getD_cons_zero, List.getD_cons_succ, List.contains_cons, List.contains_nil, List.map_cons, List.map_nil, beq_self_eq_true, beq_iff_eq, Bool.or_false, Bool.false_or, Bool.or_true, Bool.true_or, Bool.and_true, Bool.true_and, Nat.reduceBEq, Bool.false_eq_true, dbin, dIntBin, okR, callG, endN, newV, rowS, frzS, frzOf_def, frz_nil, frz_cons, frzD, rowList, rowElem, stepRow, madeRow, isLocal, isAlloc, loadsOwn, ptrAt, beq_true, beq_false, Bool.not_true, Bool.not_false, pureB, leaf, leafN, List.all_cons, List.all_nil, List.nil_append, List.cons_append, List.append_nil, List.take_nil, List.range_zero, List.length_nil, List.length_cons, String.reduceBEq, Bool.true_beq, Bool.false_beq, List.find?_cons, List.find?_nil, dun, List.getElem?_nil, List.take_zero, List.drop_zero, List.take_succ_cons, List.drop_succ_cons, dcells, Nat.zero_add, Nat.reduceAdd, Nat.reduceSub, Nat.reduceMul, stepBox, Bool.and_false, Bool.false_and, and_true, true_and, List.zipWith, Option.getD_some, List.singleton_append, List.map_map, Int.natCast_nonneg, Int.toNat_natCast, and_self, Nat.mul_one, Nat.add_zero, if_true, St.freeze, false_or, or_true, true_or, or_false, szOk_cons, szOk_nil, List.cons.injEq, false_and, and_false, forall_const, List.getElem?_toArray, List.getElem_toArray, dopt, dbound, ge_iff_le, gt_iff_lt, dStrBin, List.take_length, plainR_s, Int.reduceLE, Int.reduceLT, Int.reduceToNat, Int.reduceBEq, Int.reduceBNe, isBar, optIn, allocKeys, takes, ptrArgs, callArgs, ptrIn_nil, ptrIn_int, ptrIn_bool, ptrIn_str, ptrIn_agg, ptrIn_list, ptrIn_fix, ptrIn_con, ptrIn_ptr, ptrIn1, ren, ren1, argOk, argOk1, given, oroom, putR, padR, clearR, vroom, nilR, Option.isSome_none, Option.isSome_some, stepTake, stepPtr, notAgg, ite_self, ty3, dp3, ty4, dp4, ty23, dp23, fa23_0, fp23_0, fa23_1, fp23_1, fa23_2, fp23_2, ty25, dp25, fa25_0, fp25_0, fa25_1, fp25_1, fa25_2, fp25_2, fa25_3, fp25_3, dp23_1_6, ty53, dp53, ia53, len53, bs53_2, bs53_3, frzOps_nil, neq23, neq25, eq23, eq25, Nat.le_refl, Nat.sub_self, Option.some.injEq]
    | (refine drW_intro (by kernel_rfl) ?_)
    | (refine gw_intro (fun h => ?_) (fun h => ?_) <;> (try simp only [beq_true, beq_false, Bool.not_eq_eq_eq_not, Bool.not_true, Bool.not_false, Bool.not_not, decide_eq_true_eq, decide_eq_false_iff_not, ge_iff_le, gt_iff_lt] at h)))
    · repeat' (first
    | simp only [*, go_nil, go_seq, go_cond, go_block, go_blk, go_skip, go_exit, go_retc, go_xcode, go_xblk, go_loop, go_region, go_draw, go_ops_nil, go_dops_nil, go_ops, go_dops, okG_some, okB_some, gwD_bool, gwD_undef, cwD_bool, gw_true, gw_false, guardG_none, guardG, opG, opD, isPtr, inB, sval, stake, eats, eaters, get, cval, cval1, croom, St.taken, put_slot, put_room, put_box, put_ctr, put_none, dem_none, dem_slot, dem_box, dem_ctr, dem_room, dem_room1, setBox_slot, setBox_room, setBox_ctr, setBox_box, entry_slot, entry_room, entry_box, entry_ctr, endQ, endR, endV, rvars, rvar, room1, ↓reduceIte, Nat.reduceEqDiff, Nat.reduceLT, Nat.reduceLeDiff, reduceCtorEq, decide_true, decide_false, List.filterMap_cons, List.filterMap_nil, Option.bind_some, Option.map_some, Option.bind_none, Option.map_none, List.getElem?_cons_zero, List.getElem?_cons_succ, List.getD_cons_zero, List.getD_cons_succ, List.contains_cons, List.contains_nil, List.map_cons, List.map_nil, beq_self_eq_true, beq_iff_eq, Bool.or_false, Bool.false_or, Bool.or_true, Bool.true_or, Bool.and_true, Bool.true_and, Nat.reduceBEq, Bool.false_eq_true, dbin, dIntBin, okR, callG, endN, newV, rowS, frzS, frzOf_def, frz_nil, frz_cons, frzD, rowList, rowElem, stepRow, madeRow, isLocal, isAlloc, loadsOwn, ptrAt, beq_true, beq_false, Bool.not_true, Bool.not_false, pureB, leaf, leafN, List.all_cons, List.all_nil, List.nil_append, List.cons_append, List.append_nil, List.take_nil, List.range_zero, List.length_nil, List.length_cons, String.reduceBEq, Bool.true_beq, Bool.false_beq, List.find?_cons, List.find?_nil, dun, List.getElem?_nil, List.take_zero, List.drop_zero, List.take_succ_cons, List.drop_succ_cons, dcells, Nat.zero_add, Nat.reduceAdd, Nat.reduceSub, Nat.reduceMul, stepBox, Bool.and_false, Bool.false_and, and_true, true_and, List.zipWith, Option.getD_some, List.singleton_append, List.map_map, Int.natCast_nonneg, Int.toNat_natCast, and_self, Nat.mul_one, Nat.add_zero, if_true, St.freeze, false_or, or_true, true_or, or_false, szOk_cons, szOk_nil, List.cons.injEq, false_and, and_false, forall_const, List.getElem?_toArray, List.getElem_toArray, dopt, dbound, ge_iff_le, gt_iff_lt, dStrBin, List.take_length, plainR_s, Int.reduceLE, Int.reduceLT, Int.reduceToNat, Int.reduceBEq, Int.reduceBNe, isBar, optIn, allocKeys, takes, ptrArgs, callArgs, ptrIn_nil, ptrIn_int, ptrIn_bool, ptrIn_str, ptrIn_agg, ptrIn_list, ptrIn_fix, ptrIn_con, ptrIn_ptr, ptrIn1, ren, ren1, argOk, argOk1, given, oroom, putR, padR, clearR, vroom, nilR, Option.isSome_none, Option.isSome_some, stepTake, stepPtr, notAgg, ite_self, ty3, dp3, ty4, dp4, ty23, dp23, fa23_0, fp23_0, fa23_1, fp23_1, fa23_2, fp23_2, ty25, dp25, fa25_0, fp25_0, fa25_1, fp25_1, fa25_2, fp25_2, fa25_3, fp25_3, dp23_1_6, ty53, dp53, ia53, len53, bs53_2, bs53_3, frzOps_nil, neq23, neq25, eq23, eq25, Nat.le_refl, Nat.sub_self, Option.some.injEq]
    | (refine drW_intro (by kernel_rfl) ?_)
    | (refine gw_intro (fun h => ?_) (fun h => ?_) <;> (try simp only [beq_true, beq_false, Bool.not_eq_eq_eq_not, Bool.not_true, Bool.not_false, Bool.not_not, decide_eq_true_eq, decide_eq_false_iff_not, ge_iff_le, gt_iff_lt] at h)))
/-- The first number that is not 0. -/
def orF : List Int → Int
  | [] => 0
  | z :: r => if z = 0 then orF r else z
theorem i64_at (zs : List Int) (i : Nat) (h : i < zs.length) : (zs.map (D.int .i64)).getD i .bad = .int .i64 (zs.getD i 0) := by simp [List.getD, h]
theorem orF_at (zs : List Int) (i : Nat) (h : i < zs.length) : orF (zs.drop i) = if zs.getD i 0 = 0 then orF (zs.drop (i + 1)) else zs.getD i 0 := by
  have e : zs.getD i 0 = zs[i] := by simp [List.getD, h]
  rw [List.drop_eq_getElem_cons h, orF, e]
theorem lenI (zs : List Int) : ((zs.map (D.int .i64)).length : Int) = zs.length := by simp
set_option maxHeartbeats 4000000 in
theorem or_L (zs : List Int) (hl : zs.length ≤ 1000000) : callL Tryz.prog ext21 27 [.list (zs.map (D.int .i64))] [] = some (.int .i64 (orF zs), [.no], []) := by
  have lN := lenI zs
  refine callK (m := 18) (res := [2]) (rs := [.tmp 2]) rfl Tryz.func27 rfl rfl rfl rfl rfl ?_
  have HL := Hd.mk hl
  clear hl
  obtain ⟨R, hR⟩ : ∃ R, Hd (R = orF zs) := ⟨_, rfl⟩
  rw [← (show R = orF zs from hR)]
  repeat' (first
    | simp only [*, go_nil, go_seq, go_cond, go_block, go_blk, go_skip, go_exit, go_retc, go_xcode, go_xblk, go_loop, go_region, go_draw, go_ops_nil, go_dops_nil, go_ops, go_dops, okG_some, okB_some, gwD_bool, gwD_undef, cwD_bool, gw_true, gw_false, guardG_none, guardG, opG, opD, isPtr, inB, sval, stake, eats, eaters, get, cval, cval1, croom, St.taken, put_slot, put_room, put_box, put_ctr, put_none, dem_none, dem_slot, dem_box, dem_ctr, dem_room, dem_room1, setBox_slot, setBox_room, setBox_ctr, setBox_box, entry_slot, entry_room, entry_box, entry_ctr, endQ, endR, endV, rvars, rvar, room1, ↓reduceIte, Nat.reduceEqDiff, Nat.reduceLT, Nat.reduceLeDiff, reduceCtorEq, decide_true, decide_false, List.filterMap_cons, List.filterMap_nil, Option.bind_some, Option.map_some, Option.bind_none, Option.map_none, List.getElem?_cons_zero, List.getElem?_cons_succ, List.getD_cons_zero, List.getD_cons_succ, List.contains_cons, List.contains_nil, List.map_cons, List.map_nil, beq_self_eq_true, beq_iff_eq, Bool.or_false, Bool.false_or, Bool.or_true, Bool.true_or, Bool.and_true, Bool.true_and, Nat.reduceBEq, Bool.false_eq_true, dbin, dIntBin, okR, callG, endN, newV, rowS, frzS, frzOf_def, frz_nil, frz_cons, frzD, rowList, rowElem, stepRow, madeRow, isLocal, isAlloc, loadsOwn, ptrAt, beq_true, beq_false, Bool.not_true, Bool.not_false, pureB, leaf, leafN, List.all_cons, List.all_nil, List.nil_append, List.cons_append, List.append_nil, List.take_nil, List.range_zero, List.length_nil, List.length_cons, String.reduceBEq, Bool.true_beq, Bool.false_beq, List.find?_cons, List.find?_nil, dun, List.getElem?_nil, List.take_zero, List.drop_zero, List.take_succ_cons, List.drop_succ_cons, dcells, Nat.zero_add, Nat.reduceAdd, Nat.reduceSub, Nat.reduceMul, stepBox, Bool.and_false, Bool.false_and, and_true, true_and, List.zipWith, Option.getD_some, List.singleton_append, List.map_map, Int.natCast_nonneg, Int.toNat_natCast, and_self, Nat.mul_one, Nat.add_zero, if_true, St.freeze, false_or, or_true, true_or, or_false, szOk_cons, szOk_nil, List.cons.injEq, false_and, and_false, forall_const, List.getElem?_toArray, List.getElem_toArray, dopt, dbound, ge_iff_le, gt_iff_lt, dStrBin, List.take_length, plainR_s, Int.reduceLE, Int.reduceLT, Int.reduceToNat, Int.reduceBEq, Int.reduceBNe, isBar, optIn, allocKeys, takes, ptrArgs, callArgs, ptrIn_nil, ptrIn_int, ptrIn_bool, ptrIn_str, ptrIn_agg, ptrIn_list, ptrIn_fix, ptrIn_con, ptrIn_ptr, ptrIn1, ren, ren1, argOk, argOk1, given, oroom, putR, padR, clearR, vroom, nilR, Option.isSome_none, Option.isSome_some, stepTake, stepPtr, notAgg, ite_self, ty3, dp3, ty4, dp4, ty23, dp23, fa23_0, fp23_0, fa23_1, fp23_1, fa23_2, fp23_2, ty25, dp25, fa25_0, fp25_0, fa25_1, fp25_1, fa25_2, fp25_2, fa25_3, fp25_3, dp23_1_6, ty53, dp53, ia53, len53, bs53_2, bs53_3, frzOps_nil, neq23, neq25, eq23, eq25, Nat.le_refl, Nat.sub_self, Option.some.injEq]
    | (refine drW_intro (by kernel_rfl) ?_)
    | (refine gw_intro (fun h => ?_) (fun h => ?_) <;> (try simp only [beq_true, beq_false, Bool.not_eq_eq_eq_not, Bool.not_true, Bool.not_false, Bool.not_not, decide_eq_true_eq, decide_eq_false_iff_not, ge_iff_le, gt_iff_lt] at h)))
  refine loopH (fun st => ∃ i : Nat, i ≤ zs.length ∧ st.slot 6 = .list (zs.map (D.int .i64)) ∧ st.slot 7 = .int .i64 zs.length ∧ st.slot 8 = .int .i64 i ∧ st.slot 3 = .int .i64 0 ∧ st.room 3 = [] ∧ Hd (R = orF (zs.drop i))) (fun st => zs.length - slotI st 8) ?_ ?_
  · refine ⟨0, Nat.zero_le _, ?_, ?_, ?_, ?_, ?_, hR⟩
    all_goals simp only [*, go_nil, go_seq, go_cond, go_block, go_blk, go_skip, go_exit, go_retc, go_xcode, go_xblk, go_loop, go_region, go_draw, go_ops_nil, go_dops_nil, go_ops, go_dops, okG_some, okB_some, gwD_bool, gwD_undef, cwD_bool, gw_true, gw_false, guardG_none, guardG, opG, opD, isPtr, inB, sval, stake, eats, eaters, get, cval, cval1, croom, St.taken, put_slot, put_room, put_box, put_ctr, put_none, dem_none, dem_slot, dem_box, dem_ctr, dem_room, dem_room1, setBox_slot, setBox_room, setBox_ctr, setBox_box, entry_slot, entry_room, entry_box, entry_ctr, endQ, endR, endV, rvars, rvar, room1, ↓reduceIte, Nat.reduceEqDiff, Nat.reduceLT, Nat.reduceLeDiff, reduceCtorEq, decide_true, decide_false, List.filterMap_cons, List.filterMap_nil, Option.bind_some, Option.map_some, Option.bind_none, Option.map_none, List.getElem?_cons_zero, List.getElem?_cons_succ, List.getD_cons_zero, List.getD_cons_succ, List.contains_cons, List.contains_nil, List.map_cons, List.map_nil, beq_self_eq_true, beq_iff_eq, Bool.or_false, Bool.false_or, Bool.or_true, Bool.true_or, Bool.and_true, Bool.true_and, Nat.reduceBEq, Bool.false_eq_true, dbin, dIntBin, okR, callG, endN, newV, rowS, frzS, frzOf_def, frz_nil, frz_cons, frzD, rowList, rowElem, stepRow, madeRow, isLocal, isAlloc, loadsOwn, ptrAt, beq_true, beq_false, Bool.not_true, Bool.not_false, pureB, leaf, leafN, List.all_cons, List.all_nil, List.nil_append, List.cons_append, List.append_nil, List.take_nil, List.range_zero, List.length_nil, List.length_cons, String.reduceBEq, Bool.true_beq, Bool.false_beq, List.find?_cons, List.find?_nil, dun, List.getElem?_nil, List.take_zero, List.drop_zero, List.take_succ_cons, List.drop_succ_cons, dcells, Nat.zero_add, Nat.reduceAdd, Nat.reduceSub, Nat.reduceMul, stepBox, Bool.and_false, Bool.false_and, and_true, true_and, List.zipWith, Option.getD_some, List.singleton_append, List.map_map, Int.natCast_nonneg, Int.toNat_natCast, and_self, Nat.mul_one, Nat.add_zero, if_true, St.freeze, false_or, or_true, true_or, or_false, szOk_cons, szOk_nil, List.cons.injEq, false_and, and_false, forall_const, List.getElem?_toArray, List.getElem_toArray, dopt, dbound, ge_iff_le, gt_iff_lt, dStrBin, List.take_length, plainR_s, Int.reduceLE, Int.reduceLT, Int.reduceToNat, Int.reduceBEq, Int.reduceBNe, isBar, optIn, allocKeys, takes, ptrArgs, callArgs, ptrIn_nil, ptrIn_int, ptrIn_bool, ptrIn_str, ptrIn_agg, ptrIn_list, ptrIn_fix, ptrIn_con, ptrIn_ptr, ptrIn1, ren, ren1, argOk, argOk1, given, oroom, putR, padR, clearR, vroom, nilR, Option.isSome_none, Option.isSome_some, stepTake, stepPtr, notAgg, ite_self, ty3, dp3, ty4, dp4, ty23, dp23, fa23_0, fp23_0, fa23_1, fp23_1, fa23_2, fp23_2, ty25, dp25, fa25_0, fp25_0, fa25_1, fp25_1, fa25_2, fp25_2, fa25_3, fp25_3, dp23_1_6, ty53, dp53, ia53, len53, bs53_2, bs53_3, frzOps_nil, neq23, neq25, eq23, eq25, Nat.le_refl, Nat.sub_self, Option.some.injEq]
    all_goals rfl
  · rintro st K ⟨i, hi, g6, g7, g8, g3, gr, hO⟩ hn hx hr
    have hl : zs.length ≤ 1000000 := HL
    by_cases h : i < zs.length
    · have g1 : (i : Int) < zs.length := by omega
      have hw := wrapS i (by omega)
      have hat := i64_at zs i h
      have hO' : R = orF (zs.drop i) := hO
      rw [orF_at zs i h] at hO'
      by_cases hz : zs.getD i 0 = 0
      · rw [if_pos hz] at hO'
        have hb : ((0 : Int) != 0) = false := rfl
        rw [hz] at hat
        have HO := Hd.mk hO'
        clear hO hO' hx hr hl hz
        repeat' (first
    | simp only [*, go_nil, go_seq, go_cond, go_block, go_blk, go_skip, go_exit, go_retc, go_xcode, go_xblk, go_loop, go_region, go_draw, go_ops_nil, go_dops_nil, go_ops, go_dops, okG_some, okB_some, gwD_bool, gwD_undef, cwD_bool, gw_true, gw_false, guardG_none, guardG, opG, opD, isPtr, inB, sval, stake, eats, eaters, get, cval, cval1, croom, St.taken, put_slot, put_room, put_box, put_ctr, put_none, dem_none, dem_slot, dem_box, dem_ctr, dem_room, dem_room1, setBox_slot, setBox_room, setBox_ctr, setBox_box, entry_slot, entry_room, entry_box, entry_ctr, endQ, endR, endV, rvars, rvar, room1, ↓reduceIte, Nat.reduceEqDiff, Nat.reduceLT, Nat.reduceLeDiff, reduceCtorEq, decide_true, decide_false, List.filterMap_cons, List.filterMap_nil, Option.bind_some, Option.map_some, Option.bind_none, Option.map_none, List.getElem?_cons_zero, List.getElem?_cons_succ, List.getD_cons_zero, List.getD_cons_succ, List.contains_cons, List.contains_nil, List.map_cons, List.map_nil, beq_self_eq_true, beq_iff_eq, Bool.or_false, Bool.false_or, Bool.or_true, Bool.true_or, Bool.and_true, Bool.true_and, Nat.reduceBEq, Bool.false_eq_true, dbin, dIntBin, okR, callG, endN, newV, rowS, frzS, frzOf_def, frz_nil, frz_cons, frzD, rowList, rowElem, stepRow, madeRow, isLocal, isAlloc, loadsOwn, ptrAt, beq_true, beq_false, Bool.not_true, Bool.not_false, pureB, leaf, leafN, List.all_cons, List.all_nil, List.nil_append, List.cons_append, List.append_nil, List.take_nil, List.range_zero, List.length_nil, List.length_cons, String.reduceBEq, Bool.true_beq, Bool.false_beq, List.find?_cons, List.find?_nil, dun, List.getElem?_nil, List.take_zero, List.drop_zero, List.take_succ_cons, List.drop_succ_cons, dcells, Nat.zero_add, Nat.reduceAdd, Nat.reduceSub, Nat.reduceMul, stepBox, Bool.and_false, Bool.false_and, and_true, true_and, List.zipWith, Option.getD_some, List.singleton_append, List.map_map, Int.natCast_nonneg, Int.toNat_natCast, and_self, Nat.mul_one, Nat.add_zero, if_true, St.freeze, false_or, or_true, true_or, or_false, szOk_cons, szOk_nil, List.cons.injEq, false_and, and_false, forall_const, List.getElem?_toArray, List.getElem_toArray, dopt, dbound, ge_iff_le, gt_iff_lt, dStrBin, List.take_length, plainR_s, Int.reduceLE, Int.reduceLT, Int.reduceToNat, Int.reduceBEq, Int.reduceBNe, isBar, optIn, allocKeys, takes, ptrArgs, callArgs, ptrIn_nil, ptrIn_int, ptrIn_bool, ptrIn_str, ptrIn_agg, ptrIn_list, ptrIn_fix, ptrIn_con, ptrIn_ptr, ptrIn1, ren, ren1, argOk, argOk1, given, oroom, putR, padR, clearR, vroom, nilR, Option.isSome_none, Option.isSome_some, stepTake, stepPtr, notAgg, ite_self, ty3, dp3, ty4, dp4, ty23, dp23, fa23_0, fp23_0, fa23_1, fp23_1, fa23_2, fp23_2, ty25, dp25, fa25_0, fp25_0, fa25_1, fp25_1, fa25_2, fp25_2, fa25_3, fp25_3, dp23_1_6, ty53, dp53, ia53, len53, bs53_2, bs53_3, frzOps_nil, neq23, neq25, eq23, eq25, Nat.le_refl, Nat.sub_self, Option.some.injEq]
    | (refine drW_intro (by kernel_rfl) ?_)
    | (refine gw_intro (fun h => ?_) (fun h => ?_) <;> (try simp only [beq_true, beq_false, Bool.not_eq_eq_eq_not, Bool.not_true, Bool.not_false, Bool.not_not, decide_eq_true_eq, decide_eq_false_iff_not, ge_iff_le, gt_iff_lt] at h)))
        refine hn _ ⟨i + 1, h, ?_, ?_, ?_, ?_, ?_, HO⟩ ?_
        · simp only [*, put_slot, put_room, put_box, put_ctr, put_none, dem_none, dem_slot, dem_box, dem_ctr, dem_room, dem_room1, setBox_slot, setBox_room, setBox_ctr, setBox_box, entry_slot, entry_room, entry_box, entry_ctr, St.taken, ↓reduceIte, Nat.reduceEqDiff, Nat.reduceLT, Nat.reduceLeDiff, reduceCtorEq, Option.some.injEq, List.cons.injEq, List.map_nil, List.map_cons, beq_self_eq_true, and_true, true_and, or_true, true_or, or_false, false_or, and_self]
        · simp only [*, put_slot, put_room, put_box, put_ctr, put_none, dem_none, dem_slot, dem_box, dem_ctr, dem_room, dem_room1, setBox_slot, setBox_room, setBox_ctr, setBox_box, entry_slot, entry_room, entry_box, entry_ctr, St.taken, ↓reduceIte, Nat.reduceEqDiff, Nat.reduceLT, Nat.reduceLeDiff, reduceCtorEq, Option.some.injEq, List.cons.injEq, List.map_nil, List.map_cons, beq_self_eq_true, and_true, true_and, or_true, true_or, or_false, false_or, and_self]
        · simp only [*, put_slot, put_room, put_box, put_ctr, put_none, dem_none, dem_slot, dem_box, dem_ctr, dem_room, dem_room1, setBox_slot, setBox_room, setBox_ctr, setBox_box, entry_slot, entry_room, entry_box, entry_ctr, St.taken, ↓reduceIte, Nat.reduceEqDiff, Nat.reduceLT, Nat.reduceLeDiff, reduceCtorEq, Option.some.injEq, List.cons.injEq, List.map_nil, List.map_cons, beq_self_eq_true, and_true, true_and, or_true, true_or, or_false, false_or, and_self]
        · simp only [*, put_slot, put_room, put_box, put_ctr, put_none, dem_none, dem_slot, dem_box, dem_ctr, dem_room, dem_room1, setBox_slot, setBox_room, setBox_ctr, setBox_box, entry_slot, entry_room, entry_box, entry_ctr, St.taken, ↓reduceIte, Nat.reduceEqDiff, Nat.reduceLT, Nat.reduceLeDiff, reduceCtorEq, Option.some.injEq, List.cons.injEq, List.map_nil, List.map_cons, beq_self_eq_true, and_true, true_and, or_true, true_or, or_false, false_or, and_self]
        · simp only [*, put_slot, put_room, put_box, put_ctr, put_none, dem_none, dem_slot, dem_box, dem_ctr, dem_room, dem_room1, setBox_slot, setBox_room, setBox_ctr, setBox_box, entry_slot, entry_room, entry_box, entry_ctr, St.taken, ↓reduceIte, Nat.reduceEqDiff, Nat.reduceLT, Nat.reduceLeDiff, reduceCtorEq, Option.some.injEq, List.cons.injEq, List.map_nil, List.map_cons, beq_self_eq_true, and_true, true_and, or_true, true_or, or_false, false_or, and_self]
        · simp only [slotI, *, go_nil, go_seq, go_cond, go_block, go_blk, go_skip, go_exit, go_retc, go_xcode, go_xblk, go_loop, go_region, go_draw, go_ops_nil, go_dops_nil, go_ops, go_dops, okG_some, okB_some, gwD_bool, gwD_undef, cwD_bool, gw_true, gw_false, guardG_none, guardG, opG, opD, isPtr, inB, sval, stake, eats, eaters, get, cval, cval1, croom, St.taken, put_slot, put_room, put_box, put_ctr, put_none, dem_none, dem_slot, dem_box, dem_ctr, dem_room, dem_room1, setBox_slot, setBox_room, setBox_ctr, setBox_box, entry_slot, entry_room, entry_box, entry_ctr, endQ, endR, endV, rvars, rvar, room1, ↓reduceIte, Nat.reduceEqDiff, Nat.reduceLT, Nat.reduceLeDiff, reduceCtorEq, decide_true, decide_false, List.filterMap_cons, List.filterMap_nil, Option.bind_some, Option.map_some, Option.bind_none, Option.map_none, List.getElem?_cons_zero, List.getElem?_cons_succ, List.getD_cons_zero, List.getD_cons_succ, List.contains_cons, List.contains_nil, List.map_cons, List.map_nil, beq_self_eq_true, beq_iff_eq, Bool.or_false, Bool.false_or, Bool.or_true, Bool.true_or, Bool.and_true, Bool.true_and, Nat.reduceBEq, Bool.false_eq_true, dbin, dIntBin, okR, callG, endN, newV, rowS, frzS, frzOf_def, frz_nil, frz_cons, frzD, rowList, rowElem, stepRow, madeRow, isLocal, isAlloc, loadsOwn, ptrAt, beq_true, beq_false, Bool.not_true, Bool.not_false, pureB, leaf, leafN, List.all_cons, List.all_nil, List.nil_append, List.cons_append, List.append_nil, List.take_nil, List.range_zero, List.length_nil, List.length_cons, String.reduceBEq, Bool.true_beq, Bool.false_beq, List.find?_cons, List.find?_nil, dun, List.getElem?_nil, List.take_zero, List.drop_zero, List.take_succ_cons, List.drop_succ_cons, dcells, Nat.zero_add, Nat.reduceAdd, Nat.reduceSub, Nat.reduceMul, stepBox, Bool.and_false, Bool.false_and, and_true, true_and, List.zipWith, Option.getD_some, List.singleton_append, List.map_map, Int.natCast_nonneg, Int.toNat_natCast, and_self, Nat.mul_one, Nat.add_zero, if_true, St.freeze, false_or, or_true, true_or, or_false, szOk_cons, szOk_nil, List.cons.injEq, false_and, and_false, forall_const, List.getElem?_toArray, List.getElem_toArray, dopt, dbound, ge_iff_le, gt_iff_lt, dStrBin, List.take_length, plainR_s, Int.reduceLE, Int.reduceLT, Int.reduceToNat, Int.reduceBEq, Int.reduceBNe, isBar, optIn, allocKeys, takes, ptrArgs, callArgs, ptrIn_nil, ptrIn_int, ptrIn_bool, ptrIn_str, ptrIn_agg, ptrIn_list, ptrIn_fix, ptrIn_con, ptrIn_ptr, ptrIn1, ren, ren1, argOk, argOk1, given, oroom, putR, padR, clearR, vroom, nilR, Option.isSome_none, Option.isSome_some, stepTake, stepPtr, notAgg, ite_self, ty3, dp3, ty4, dp4, ty23, dp23, fa23_0, fp23_0, fa23_1, fp23_1, fa23_2, fp23_2, ty25, dp25, fa25_0, fp25_0, fa25_1, fp25_1, fa25_2, fp25_2, fa25_3, fp25_3, dp23_1_6, ty53, dp53, ia53, len53, bs53_2, bs53_3, frzOps_nil, neq23, neq25, eq23, eq25, Nat.le_refl, Nat.sub_self, Option.some.injEq]
          omega
      · rw [if_neg hz] at hO'
        have hb : (zs.getD i 0 != 0) = true := by simpa using hz
        subst hO'
        clear hO hn hx hl hz hR
        generalize zs.getD i 0 = c at *
        repeat' (first
    | simp only [*, go_nil, go_seq, go_cond, go_block, go_blk, go_skip, go_exit, go_retc, go_xcode, go_xblk, go_loop, go_region, go_draw, go_ops_nil, go_dops_nil, go_ops, go_dops, okG_some, okB_some, gwD_bool, gwD_undef, cwD_bool, gw_true, gw_false, guardG_none, guardG, opG, opD, isPtr, inB, sval, stake, eats, eaters, get, cval, cval1, croom, St.taken, put_slot, put_room, put_box, put_ctr, put_none, dem_none, dem_slot, dem_box, dem_ctr, dem_room, dem_room1, setBox_slot, setBox_room, setBox_ctr, setBox_box, entry_slot, entry_room, entry_box, entry_ctr, endQ, endR, endV, rvars, rvar, room1, ↓reduceIte, Nat.reduceEqDiff, Nat.reduceLT, Nat.reduceLeDiff, reduceCtorEq, decide_true, decide_false, List.filterMap_cons, List.filterMap_nil, Option.bind_some, Option.map_some, Option.bind_none, Option.map_none, List.getElem?_cons_zero, List.getElem?_cons_succ, List.getD_cons_zero, List.getD_cons_succ, List.contains_cons, List.contains_nil, List.map_cons, List.map_nil, beq_self_eq_true, beq_iff_eq, Bool.or_false, Bool.false_or, Bool.or_true, Bool.true_or, Bool.and_true, Bool.true_and, Nat.reduceBEq, Bool.false_eq_true, dbin, dIntBin, okR, callG, endN, newV, rowS, frzS, frzOf_def, frz_nil, frz_cons, frzD, rowList, rowElem, stepRow, madeRow, isLocal, isAlloc, loadsOwn, ptrAt, beq_true, beq_false, Bool.not_true, Bool.not_false, pureB, leaf, leafN, List.all_cons, List.all_nil, List.nil_append, List.cons_append, List.append_nil, List.take_nil, List.range_zero, List.length_nil, List.length_cons, String.reduceBEq, Bool.true_beq, Bool.false_beq, List.find?_cons, List.find?_nil, dun, List.getElem?_nil, List.take_zero, List.drop_zero, List.take_succ_cons, List.drop_succ_cons, dcells, Nat.zero_add, Nat.reduceAdd, Nat.reduceSub, Nat.reduceMul, stepBox, Bool.and_false, Bool.false_and, and_true, true_and, List.zipWith, Option.getD_some, List.singleton_append, List.map_map, Int.natCast_nonneg, Int.toNat_natCast, and_self, Nat.mul_one, Nat.add_zero, if_true, St.freeze, false_or, or_true, true_or, or_false, szOk_cons, szOk_nil, List.cons.injEq, false_and, and_false, forall_const, List.getElem?_toArray, List.getElem_toArray, dopt, dbound, ge_iff_le, gt_iff_lt, dStrBin, List.take_length, plainR_s, Int.reduceLE, Int.reduceLT, Int.reduceToNat, Int.reduceBEq, Int.reduceBNe, isBar, optIn, allocKeys, takes, ptrArgs, callArgs, ptrIn_nil, ptrIn_int, ptrIn_bool, ptrIn_str, ptrIn_agg, ptrIn_list, ptrIn_fix, ptrIn_con, ptrIn_ptr, ptrIn1, ren, ren1, argOk, argOk1, given, oroom, putR, padR, clearR, vroom, nilR, Option.isSome_none, Option.isSome_some, stepTake, stepPtr, notAgg, ite_self, ty3, dp3, ty4, dp4, ty23, dp23, fa23_0, fp23_0, fa23_1, fp23_1, fa23_2, fp23_2, ty25, dp25, fa25_0, fp25_0, fa25_1, fp25_1, fa25_2, fp25_2, fa25_3, fp25_3, dp23_1_6, ty53, dp53, ia53, len53, bs53_2, bs53_3, frzOps_nil, neq23, neq25, eq23, eq25, Nat.le_refl, Nat.sub_self, Option.some.injEq]
    | (refine drW_intro (by kernel_rfl) ?_)
    | (refine gw_intro (fun h => ?_) (fun h => ?_) <;> (try simp only [beq_true, beq_false, Bool.not_eq_eq_eq_not, Bool.not_true, Bool.not_false, Bool.not_not, decide_eq_true_eq, decide_eq_false_iff_not, ge_iff_le, gt_iff_lt] at h)))
        refine hr _ ?_
        repeat' (first
    | simp only [*, go_nil, go_seq, go_cond, go_block, go_blk, go_skip, go_exit, go_retc, go_xcode, go_xblk, go_loop, go_region, go_draw, go_ops_nil, go_dops_nil, go_ops, go_dops, okG_some, okB_some, gwD_bool, gwD_undef, cwD_bool, gw_true, gw_false, guardG_none, guardG, opG, opD, isPtr, inB, sval, stake, eats, eaters, get, cval, cval1, croom, St.taken, put_slot, put_room, put_box, put_ctr, put_none, dem_none, dem_slot, dem_box, dem_ctr, dem_room, dem_room1, setBox_slot, setBox_room, setBox_ctr, setBox_box, entry_slot, entry_room, entry_box, entry_ctr, endQ, endR, endV, rvars, rvar, room1, ↓reduceIte, Nat.reduceEqDiff, Nat.reduceLT, Nat.reduceLeDiff, reduceCtorEq, decide_true, decide_false, List.filterMap_cons, List.filterMap_nil, Option.bind_some, Option.map_some, Option.bind_none, Option.map_none, List.getElem?_cons_zero, List.getElem?_cons_succ, List.getD_cons_zero, List.getD_cons_succ, List.contains_cons, List.contains_nil, List.map_cons, List.map_nil, beq_self_eq_true, beq_iff_eq, Bool.or_false, Bool.false_or, Bool.or_true, Bool.true_or, Bool.and_true, Bool.true_and, Nat.reduceBEq, Bool.false_eq_true, dbin, dIntBin, okR, callG, endN, newV, rowS, frzS, frzOf_def, frz_nil, frz_cons, frzD, rowList, rowElem, stepRow, madeRow, isLocal, isAlloc, loadsOwn, ptrAt, beq_true, beq_false, Bool.not_true, Bool.not_false, pureB, leaf, leafN, List.all_cons, List.all_nil, List.nil_append, List.cons_append, List.append_nil, List.take_nil, List.range_zero, List.length_nil, List.length_cons, String.reduceBEq, Bool.true_beq, Bool.false_beq, List.find?_cons, List.find?_nil, dun, List.getElem?_nil, List.take_zero, List.drop_zero, List.take_succ_cons, List.drop_succ_cons, dcells, Nat.zero_add, Nat.reduceAdd, Nat.reduceSub, Nat.reduceMul, stepBox, Bool.and_false, Bool.false_and, and_true, true_and, List.zipWith, Option.getD_some, List.singleton_append, List.map_map, Int.natCast_nonneg, Int.toNat_natCast, and_self, Nat.mul_one, Nat.add_zero, if_true, St.freeze, false_or, or_true, true_or, or_false, szOk_cons, szOk_nil, List.cons.injEq, false_and, and_false, forall_const, List.getElem?_toArray, List.getElem_toArray, dopt, dbound, ge_iff_le, gt_iff_lt, dStrBin, List.take_length, plainR_s, Int.reduceLE, Int.reduceLT, Int.reduceToNat, Int.reduceBEq, Int.reduceBNe, isBar, optIn, allocKeys, takes, ptrArgs, callArgs, ptrIn_nil, ptrIn_int, ptrIn_bool, ptrIn_str, ptrIn_agg, ptrIn_list, ptrIn_fix, ptrIn_con, ptrIn_ptr, ptrIn1, ren, ren1, argOk, argOk1, given, oroom, putR, padR, clearR, vroom, nilR, Option.isSome_none, Option.isSome_some, stepTake, stepPtr, notAgg, ite_self, ty3, dp3, ty4, dp4, ty23, dp23, fa23_0, fp23_0, fa23_1, fp23_1, fa23_2, fp23_2, ty25, dp25, fa25_0, fp25_0, fa25_1, fp25_1, fa25_2, fp25_2, fa25_3, fp25_3, dp23_1_6, ty53, dp53, ia53, len53, bs53_2, bs53_3, frzOps_nil, neq23, neq25, eq23, eq25, Nat.le_refl, Nat.sub_self, Option.some.injEq]
    | (refine drW_intro (by kernel_rfl) ?_)
    | (refine gw_intro (fun h => ?_) (fun h => ?_) <;> (try simp only [beq_true, beq_false, Bool.not_eq_eq_eq_not, Bool.not_true, Bool.not_false, Bool.not_not, decide_eq_true_eq, decide_eq_false_iff_not, ge_iff_le, gt_iff_lt] at h)))
    · have g1 : ¬ (i : Int) < zs.length := by omega
      have e : zs.drop i = [] := List.drop_eq_nil_of_le (by omega)
      have hO' : R = orF (zs.drop i) := hO
      rw [e] at hO'
      have hR0 : R = 0 := hO'
      subst hR0
      clear hO hO' hn hr hl hR e
      repeat' (first
    | simp only [*, go_nil, go_seq, go_cond, go_block, go_blk, go_skip, go_exit, go_retc, go_xcode, go_xblk, go_loop, go_region, go_draw, go_ops_nil, go_dops_nil, go_ops, go_dops, okG_some, okB_some, gwD_bool, gwD_undef, cwD_bool, gw_true, gw_false, guardG_none, guardG, opG, opD, isPtr, inB, sval, stake, eats, eaters, get, cval, cval1, croom, St.taken, put_slot, put_room, put_box, put_ctr, put_none, dem_none, dem_slot, dem_box, dem_ctr, dem_room, dem_room1, setBox_slot, setBox_room, setBox_ctr, setBox_box, entry_slot, entry_room, entry_box, entry_ctr, endQ, endR, endV, rvars, rvar, room1, ↓reduceIte, Nat.reduceEqDiff, Nat.reduceLT, Nat.reduceLeDiff, reduceCtorEq, decide_true, decide_false, List.filterMap_cons, List.filterMap_nil, Option.bind_some, Option.map_some, Option.bind_none, Option.map_none, List.getElem?_cons_zero, List.getElem?_cons_succ, List.getD_cons_zero, List.getD_cons_succ, List.contains_cons, List.contains_nil, List.map_cons, List.map_nil, beq_self_eq_true, beq_iff_eq, Bool.or_false, Bool.false_or, Bool.or_true, Bool.true_or, Bool.and_true, Bool.true_and, Nat.reduceBEq, Bool.false_eq_true, dbin, dIntBin, okR, callG, endN, newV, rowS, frzS, frzOf_def, frz_nil, frz_cons, frzD, rowList, rowElem, stepRow, madeRow, isLocal, isAlloc, loadsOwn, ptrAt, beq_true, beq_false, Bool.not_true, Bool.not_false, pureB, leaf, leafN, List.all_cons, List.all_nil, List.nil_append, List.cons_append, List.append_nil, List.take_nil, List.range_zero, List.length_nil, List.length_cons, String.reduceBEq, Bool.true_beq, Bool.false_beq, List.find?_cons, List.find?_nil, dun, List.getElem?_nil, List.take_zero, List.drop_zero, List.take_succ_cons, List.drop_succ_cons, dcells, Nat.zero_add, Nat.reduceAdd, Nat.reduceSub, Nat.reduceMul, stepBox, Bool.and_false, Bool.false_and, and_true, true_and, List.zipWith, Option.getD_some, List.singleton_append, List.map_map, Int.natCast_nonneg, Int.toNat_natCast, and_self, Nat.mul_one, Nat.add_zero, if_true, St.freeze, false_or, or_true, true_or, or_false, szOk_cons, szOk_nil, List.cons.injEq, false_and, and_false, forall_const, List.getElem?_toArray, List.getElem_toArray, dopt, dbound, ge_iff_le, gt_iff_lt, dStrBin, List.take_length, plainR_s, Int.reduceLE, Int.reduceLT, Int.reduceToNat, Int.reduceBEq, Int.reduceBNe, isBar, optIn, allocKeys, takes, ptrArgs, callArgs, ptrIn_nil, ptrIn_int, ptrIn_bool, ptrIn_str, ptrIn_agg, ptrIn_list, ptrIn_fix, ptrIn_con, ptrIn_ptr, ptrIn1, ren, ren1, argOk, argOk1, given, oroom, putR, padR, clearR, vroom, nilR, Option.isSome_none, Option.isSome_some, stepTake, stepPtr, notAgg, ite_self, ty3, dp3, ty4, dp4, ty23, dp23, fa23_0, fp23_0, fa23_1, fp23_1, fa23_2, fp23_2, ty25, dp25, fa25_0, fp25_0, fa25_1, fp25_1, fa25_2, fp25_2, fa25_3, fp25_3, dp23_1_6, ty53, dp53, ia53, len53, bs53_2, bs53_3, frzOps_nil, neq23, neq25, eq23, eq25, Nat.le_refl, Nat.sub_self, Option.some.injEq]
    | (refine drW_intro (by kernel_rfl) ?_)
    | (refine gw_intro (fun h => ?_) (fun h => ?_) <;> (try simp only [beq_true, beq_false, Bool.not_eq_eq_eq_not, Bool.not_true, Bool.not_false, Bool.not_not, decide_eq_true_eq, decide_eq_false_iff_not, ge_iff_le, gt_iff_lt] at h)))
      refine hx _ _ ?_
      repeat' (first
    | simp only [*, go_nil, go_seq, go_cond, go_block, go_blk, go_skip, go_exit, go_retc, go_xcode, go_xblk, go_loop, go_region, go_draw, go_ops_nil, go_dops_nil, go_ops, go_dops, okG_some, okB_some, gwD_bool, gwD_undef, cwD_bool, gw_true, gw_false, guardG_none, guardG, opG, opD, isPtr, inB, sval, stake, eats, eaters, get, cval, cval1, croom, St.taken, put_slot, put_room, put_box, put_ctr, put_none, dem_none, dem_slot, dem_box, dem_ctr, dem_room, dem_room1, setBox_slot, setBox_room, setBox_ctr, setBox_box, entry_slot, entry_room, entry_box, entry_ctr, endQ, endR, endV, rvars, rvar, room1, ↓reduceIte, Nat.reduceEqDiff, Nat.reduceLT, Nat.reduceLeDiff, reduceCtorEq, decide_true, decide_false, List.filterMap_cons, List.filterMap_nil, Option.bind_some, Option.map_some, Option.bind_none, Option.map_none, List.getElem?_cons_zero, List.getElem?_cons_succ, List.getD_cons_zero, List.getD_cons_succ, List.contains_cons, List.contains_nil, List.map_cons, List.map_nil, beq_self_eq_true, beq_iff_eq, Bool.or_false, Bool.false_or, Bool.or_true, Bool.true_or, Bool.and_true, Bool.true_and, Nat.reduceBEq, Bool.false_eq_true, dbin, dIntBin, okR, callG, endN, newV, rowS, frzS, frzOf_def, frz_nil, frz_cons, frzD, rowList, rowElem, stepRow, madeRow, isLocal, isAlloc, loadsOwn, ptrAt, beq_true, beq_false, Bool.not_true, Bool.not_false, pureB, leaf, leafN, List.all_cons, List.all_nil, List.nil_append, List.cons_append, List.append_nil, List.take_nil, List.range_zero, List.length_nil, List.length_cons, String.reduceBEq, Bool.true_beq, Bool.false_beq, List.find?_cons, List.find?_nil, dun, List.getElem?_nil, List.take_zero, List.drop_zero, List.take_succ_cons, List.drop_succ_cons, dcells, Nat.zero_add, Nat.reduceAdd, Nat.reduceSub, Nat.reduceMul, stepBox, Bool.and_false, Bool.false_and, and_true, true_and, List.zipWith, Option.getD_some, List.singleton_append, List.map_map, Int.natCast_nonneg, Int.toNat_natCast, and_self, Nat.mul_one, Nat.add_zero, if_true, St.freeze, false_or, or_true, true_or, or_false, szOk_cons, szOk_nil, List.cons.injEq, false_and, and_false, forall_const, List.getElem?_toArray, List.getElem_toArray, dopt, dbound, ge_iff_le, gt_iff_lt, dStrBin, List.take_length, plainR_s, Int.reduceLE, Int.reduceLT, Int.reduceToNat, Int.reduceBEq, Int.reduceBNe, isBar, optIn, allocKeys, takes, ptrArgs, callArgs, ptrIn_nil, ptrIn_int, ptrIn_bool, ptrIn_str, ptrIn_agg, ptrIn_list, ptrIn_fix, ptrIn_con, ptrIn_ptr, ptrIn1, ren, ren1, argOk, argOk1, given, oroom, putR, padR, clearR, vroom, nilR, Option.isSome_none, Option.isSome_some, stepTake, stepPtr, notAgg, ite_self, ty3, dp3, ty4, dp4, ty23, dp23, fa23_0, fp23_0, fa23_1, fp23_1, fa23_2, fp23_2, ty25, dp25, fa25_0, fp25_0, fa25_1, fp25_1, fa25_2, fp25_2, fa25_3, fp25_3, dp23_1_6, ty53, dp53, ia53, len53, bs53_2, bs53_3, frzOps_nil, neq23, neq25, eq23, eq25, Nat.le_refl, Nat.sub_self, Option.some.injEq]
    | (refine drW_intro (by kernel_rfl) ?_)
    | (refine gw_intro (fun h => ?_) (fun h => ?_) <;> (try simp only [beq_true, beq_false, Bool.not_eq_eq_eq_not, Bool.not_true, Bool.not_false, Bool.not_not, decide_eq_true_eq, decide_eq_false_iff_not, ge_iff_le, gt_iff_lt] at h)))
/-- Is one specificity less than another one? -/
def lessF (a1 a2 a3 b1 b2 b3 : Int) : Bool := if a1 ≠ b1 then decide (a1 < b1) else if a2 ≠ b2 then decide (a2 < b2) else decide (a3 < b3)
theorem less_or (a1 a2 a3 b1 b2 b3 : Int) : decide (orF [cmpF a1 b1, cmpF a2 b2, cmpF a3 b3] < 0) = lessF a1 a2 a3 b1 b2 b3 := by
  have h : ∀ a b : Int, (cmpF a b = 0 ↔ a = b) ∧ (cmpF a b < 0 ↔ a < b) := by
    intro a b
    unfold cmpF
    split
    · omega
    · split <;> omega
  unfold lessF orF orF orF orF
  have h1 := h a1 b1
  have h2 := h a2 b2
  have h3 := h a3 b3
  by_cases c1 : a1 = b1
  · rw [if_pos (h1.1.2 c1), if_neg (show ¬ (a1 ≠ b1) from fun hh => hh c1)]
    by_cases c2 : a2 = b2
    · rw [if_pos (h2.1.2 c2), if_neg (show ¬ (a2 ≠ b2) from fun hh => hh c2)]
      by_cases c3 : a3 = b3
      · rw [if_pos (h3.1.2 c3)]
        have c4 : ¬ a3 < b3 := by omega
        rw [decide_eq_false c4]
        rfl
      · rw [if_neg (fun hh => c3 (h3.1.1 hh))]
        exact decide_eq_decide.2 h3.2
    · rw [if_neg (fun hh => c2 (h2.1.1 hh)), if_pos c2]
      exact decide_eq_decide.2 h2.2
  · rw [if_neg (fun hh => c1 (h1.1.1 hh)), if_pos c1]
    exact decide_eq_decide.2 h1.2
set_option maxHeartbeats 4000000 in
theorem less_L (a1 a2 a3 b1 b2 b3 : Int) : callL Tryz.prog ext21 26 [.agg [.int .i64 a1, .int .i64 a2, .int .i64 a3], .agg [.int .i64 b1, .int .i64 b2, .int .i64 b3]] [] = some (.bool (lessF a1 a2 a3 b1 b2 b3), [.no], []) := by
  have h1 := cmp_L a1 b1
  have h2 := cmp_L a2 b2
  have h3 := cmp_L a3 b3
  have h4 := or_L [cmpF a1 b1, cmpF a2 b2, cmpF a3 b3] (by simp)
  simp only [List.map_cons, List.map_nil] at h4
  rw [← less_or]
  generalize orF [cmpF a1 b1, cmpF a2 b2, cmpF a3 b3] = k at *
  generalize cmpF a1 b1 = k1 at *
  generalize cmpF a2 b2 = k2 at *
  generalize cmpF a3 b3 = k3 at *
  refine callK (m := 23) (res := [4]) (rs := [.tmp 4]) rfl Tryz.func26 rfl rfl rfl rfl rfl ?_
  by_cases hk : k < 0
  · repeat' (first
    | simp only [*, go_nil, go_seq, go_cond, go_block, go_blk, go_skip, go_exit, go_retc, go_xcode, go_xblk, go_loop, go_region, go_draw, go_ops_nil, go_dops_nil, go_ops, go_dops, okG_some, okB_some, gwD_bool, gwD_undef, cwD_bool, gw_true, gw_false, guardG_none, guardG, opG, opD, isPtr, inB, sval, stake, eats, eaters, get, cval, cval1, croom, St.taken, put_slot, put_room, put_box, put_ctr, put_none, dem_none, dem_slot, dem_box, dem_ctr, dem_room, dem_room1, setBox_slot, setBox_room, setBox_ctr, setBox_box, entry_slot, entry_room, entry_box, entry_ctr, endQ, endR, endV, rvars, rvar, room1, ↓reduceIte, Nat.reduceEqDiff, Nat.reduceLT, Nat.reduceLeDiff, reduceCtorEq, decide_true, decide_false, List.filterMap_cons, List.filterMap_nil, Option.bind_some, Option.map_some, Option.bind_none, Option.map_none, List.getElem?_cons_zero, List.getElem?_cons_succ, List.getD_cons_zero, List.getD_cons_succ, List.contains_cons, List.contains_nil, List.map_cons, List.map_nil, beq_self_eq_true, beq_iff_eq, Bool.or_false, Bool.false_or, Bool.or_true, Bool.true_or, Bool.and_true, Bool.true_and, Nat.reduceBEq, Bool.false_eq_true, dbin, dIntBin, okR, callG, endN, newV, rowS, frzS, frzOf_def, frz_nil, frz_cons, frzD, rowList, rowElem, stepRow, madeRow, isLocal, isAlloc, loadsOwn, ptrAt, beq_true, beq_false, Bool.not_true, Bool.not_false, pureB, leaf, leafN, List.all_cons, List.all_nil, List.nil_append, List.cons_append, List.append_nil, List.take_nil, List.range_zero, List.length_nil, List.length_cons, String.reduceBEq, Bool.true_beq, Bool.false_beq, List.find?_cons, List.find?_nil, dun, List.getElem?_nil, List.take_zero, List.drop_zero, List.take_succ_cons, List.drop_succ_cons, dcells, Nat.zero_add, Nat.reduceAdd, Nat.reduceSub, Nat.reduceMul, stepBox, Bool.and_false, Bool.false_and, and_true, true_and, List.zipWith, Option.getD_some, List.singleton_append, List.map_map, Int.natCast_nonneg, Int.toNat_natCast, and_self, Nat.mul_one, Nat.add_zero, if_true, St.freeze, false_or, or_true, true_or, or_false, szOk_cons, szOk_nil, List.cons.injEq, false_and, and_false, forall_const, List.getElem?_toArray, List.getElem_toArray, dopt, dbound, ge_iff_le, gt_iff_lt, dStrBin, List.take_length, plainR_s, Int.reduceLE, Int.reduceLT, Int.reduceToNat, Int.reduceBEq, Int.reduceBNe, isBar, optIn, allocKeys, takes, ptrArgs, callArgs, ptrIn_nil, ptrIn_int, ptrIn_bool, ptrIn_str, ptrIn_agg, ptrIn_list, ptrIn_fix, ptrIn_con, ptrIn_ptr, ptrIn1, ren, ren1, argOk, argOk1, given, oroom, putR, padR, clearR, vroom, nilR, Option.isSome_none, Option.isSome_some, stepTake, stepPtr, notAgg, ite_self, ty3, dp3, ty4, dp4, ty23, dp23, fa23_0, fp23_0, fa23_1, fp23_1, fa23_2, fp23_2, ty25, dp25, fa25_0, fp25_0, fa25_1, fp25_1, fa25_2, fp25_2, fa25_3, fp25_3, dp23_1_6, ty53, dp53, ia53, len53, bs53_2, bs53_3, frzOps_nil, neq23, neq25, eq23, eq25, Nat.le_refl, Nat.sub_self, Option.some.injEq]
    | (refine drW_intro (by kernel_rfl) ?_)
    | (refine gw_intro (fun h => ?_) (fun h => ?_) <;> (try simp only [beq_true, beq_false, Bool.not_eq_eq_eq_not, Bool.not_true, Bool.not_false, Bool.not_not, decide_eq_true_eq, decide_eq_false_iff_not, ge_iff_le, gt_iff_lt] at h)))
  · repeat' (first
    | simp only [*, go_nil, go_seq, go_cond, go_block, go_blk, go_skip, go_exit, go_retc, go_xcode, go_xblk, go_loop, go_region, go_draw, go_ops_nil, go_dops_nil, go_ops, go_dops, okG_some, okB_some, gwD_bool, gwD_undef, cwD_bool, gw_true, gw_false, guardG_none, guardG, opG, opD, isPtr, inB, sval, stake, eats, eaters, get, cval, cval1, croom, St.taken, put_slot, put_room, put_box, put_ctr, put_none, dem_none, dem_slot, dem_box, dem_ctr, dem_room, dem_room1, setBox_slot, setBox_room, setBox_ctr, setBox_box, entry_slot, entry_room, entry_box, entry_ctr, endQ, endR, endV, rvars, rvar, room1, ↓reduceIte, Nat.reduceEqDiff, Nat.reduceLT, Nat.reduceLeDiff, reduceCtorEq, decide_true, decide_false, List.filterMap_cons, List.filterMap_nil, Option.bind_some, Option.map_some, Option.bind_none, Option.map_none, List.getElem?_cons_zero, List.getElem?_cons_succ, List.getD_cons_zero, List.getD_cons_succ, List.contains_cons, List.contains_nil, List.map_cons, List.map_nil, beq_self_eq_true, beq_iff_eq, Bool.or_false, Bool.false_or, Bool.or_true, Bool.true_or, Bool.and_true, Bool.true_and, Nat.reduceBEq, Bool.false_eq_true, dbin, dIntBin, okR, callG, endN, newV, rowS, frzS, frzOf_def, frz_nil, frz_cons, frzD, rowList, rowElem, stepRow, madeRow, isLocal, isAlloc, loadsOwn, ptrAt, beq_true, beq_false, Bool.not_true, Bool.not_false, pureB, leaf, leafN, List.all_cons, List.all_nil, List.nil_append, List.cons_append, List.append_nil, List.take_nil, List.range_zero, List.length_nil, List.length_cons, String.reduceBEq, Bool.true_beq, Bool.false_beq, List.find?_cons, List.find?_nil, dun, List.getElem?_nil, List.take_zero, List.drop_zero, List.take_succ_cons, List.drop_succ_cons, dcells, Nat.zero_add, Nat.reduceAdd, Nat.reduceSub, Nat.reduceMul, stepBox, Bool.and_false, Bool.false_and, and_true, true_and, List.zipWith, Option.getD_some, List.singleton_append, List.map_map, Int.natCast_nonneg, Int.toNat_natCast, and_self, Nat.mul_one, Nat.add_zero, if_true, St.freeze, false_or, or_true, true_or, or_false, szOk_cons, szOk_nil, List.cons.injEq, false_and, and_false, forall_const, List.getElem?_toArray, List.getElem_toArray, dopt, dbound, ge_iff_le, gt_iff_lt, dStrBin, List.take_length, plainR_s, Int.reduceLE, Int.reduceLT, Int.reduceToNat, Int.reduceBEq, Int.reduceBNe, isBar, optIn, allocKeys, takes, ptrArgs, callArgs, ptrIn_nil, ptrIn_int, ptrIn_bool, ptrIn_str, ptrIn_agg, ptrIn_list, ptrIn_fix, ptrIn_con, ptrIn_ptr, ptrIn1, ren, ren1, argOk, argOk1, given, oroom, putR, padR, clearR, vroom, nilR, Option.isSome_none, Option.isSome_some, stepTake, stepPtr, notAgg, ite_self, ty3, dp3, ty4, dp4, ty23, dp23, fa23_0, fp23_0, fa23_1, fp23_1, fa23_2, fp23_2, ty25, dp25, fa25_0, fp25_0, fa25_1, fp25_1, fa25_2, fp25_2, fa25_3, fp25_3, dp23_1_6, ty53, dp53, ia53, len53, bs53_2, bs53_3, frzOps_nil, neq23, neq25, eq23, eq25, Nat.le_refl, Nat.sub_self, Option.some.injEq]
    | (refine drW_intro (by kernel_rfl) ?_)
    | (refine gw_intro (fun h => ?_) (fun h => ?_) <;> (try simp only [beq_true, beq_false, Bool.not_eq_eq_eq_not, Bool.not_true, Bool.not_false, Bool.not_not, decide_eq_true_eq, decide_eq_false_iff_not, ge_iff_le, gt_iff_lt] at h)))
set_option maxHeartbeats 4000000 in
theorem rless_L (a1 a2 a3 b1 b2 b3 : Int) : callL Tryz.prog ext21 28 [.agg [.int .i64 a1, .int .i64 a2, .int .i64 a3], .agg [.int .i64 b1, .int .i64 b2, .int .i64 b3]] [] = some (.bool (lessF a1 a2 a3 b1 b2 b3), [.no], []) := by
  refine callK (m := 30) (res := [4]) (rs := [.tmp 4]) rfl Tryz.func28 rfl rfl rfl rfl rfl ?_
  unfold lessF
  by_cases c1 : a1 = b1
  · subst c1
    have e1 : (a1 != a1) = false := by simp
    rw [if_neg (by simp)]
    by_cases c2 : a2 = b2
    · subst c2
      have e2 : (a2 != a2) = false := by simp
      rw [if_neg (by simp)]
      by_cases c3 : a3 < b3
      · repeat' (first
    | simp only [*, go_nil, go_seq, go_cond, go_block, go_blk, go_skip, go_exit, go_retc, go_xcode, go_xblk, go_loop, go_region, go_draw, go_ops_nil, go_dops_nil, go_ops, go_dops, okG_some, okB_some, gwD_bool, gwD_undef, cwD_bool, gw_true, gw_false, guardG_none, guardG, opG, opD, isPtr, inB, sval, stake, eats, eaters, get, cval, cval1, croom, St.taken, put_slot, put_room, put_box, put_ctr, put_none, dem_none, dem_slot, dem_box, dem_ctr, dem_room, dem_room1, setBox_slot, setBox_room, setBox_ctr, setBox_box, entry_slot, entry_room, entry_box, entry_ctr, endQ, endR, endV, rvars, rvar, room1, ↓reduceIte, Nat.reduceEqDiff, Nat.reduceLT, Nat.reduceLeDiff, reduceCtorEq, decide_true, decide_false, List.filterMap_cons, List.filterMap_nil, Option.bind_some, Option.map_some, Option.bind_none, Option.map_none, List.getElem?_cons_zero, List.getElem?_cons_succ, List.getD_cons_zero, List.getD_cons_succ, List.contains_cons, List.contains_nil, List.map_cons, List.map_nil, beq_self_eq_true, beq_iff_eq, Bool.or_false, Bool.false_or, Bool.or_true, Bool.true_or, Bool.and_true, Bool.true_and, Nat.reduceBEq, Bool.false_eq_true, dbin, dIntBin, okR, callG, endN, newV, rowS, frzS, frzOf_def, frz_nil, frz_cons, frzD, rowList, rowElem, stepRow, madeRow, isLocal, isAlloc, loadsOwn, ptrAt, beq_true, beq_false, Bool.not_true, Bool.not_false, pureB, leaf, leafN, List.all_cons, List.all_nil, List.nil_append, List.cons_append, List.append_nil, List.take_nil, List.range_zero, List.length_nil, List.length_cons, String.reduceBEq, Bool.true_beq, Bool.false_beq, List.find?_cons, List.find?_nil, dun, List.getElem?_nil, List.take_zero, List.drop_zero, List.take_succ_cons, List.drop_succ_cons, dcells, Nat.zero_add, Nat.reduceAdd, Nat.reduceSub, Nat.reduceMul, stepBox, Bool.and_false, Bool.false_and, and_true, true_and, List.zipWith, Option.getD_some, List.singleton_append, List.map_map, Int.natCast_nonneg, Int.toNat_natCast, and_self, Nat.mul_one, Nat.add_zero, if_true, St.freeze, false_or, or_true, true_or, or_false, szOk_cons, szOk_nil, List.cons.injEq, false_and, and_false, forall_const, List.getElem?_toArray, List.getElem_toArray, dopt, dbound, ge_iff_le, gt_iff_lt, dStrBin, List.take_length, plainR_s, Int.reduceLE, Int.reduceLT, Int.reduceToNat, Int.reduceBEq, Int.reduceBNe, isBar, optIn, allocKeys, takes, ptrArgs, callArgs, ptrIn_nil, ptrIn_int, ptrIn_bool, ptrIn_str, ptrIn_agg, ptrIn_list, ptrIn_fix, ptrIn_con, ptrIn_ptr, ptrIn1, ren, ren1, argOk, argOk1, given, oroom, putR, padR, clearR, vroom, nilR, Option.isSome_none, Option.isSome_some, stepTake, stepPtr, notAgg, ite_self, ty3, dp3, ty4, dp4, ty23, dp23, fa23_0, fp23_0, fa23_1, fp23_1, fa23_2, fp23_2, ty25, dp25, fa25_0, fp25_0, fa25_1, fp25_1, fa25_2, fp25_2, fa25_3, fp25_3, dp23_1_6, ty53, dp53, ia53, len53, bs53_2, bs53_3, frzOps_nil, neq23, neq25, eq23, eq25, Nat.le_refl, Nat.sub_self, Option.some.injEq]
    | (refine drW_intro (by kernel_rfl) ?_)
    | (refine gw_intro (fun h => ?_) (fun h => ?_) <;> (try simp only [beq_true, beq_false, Bool.not_eq_eq_eq_not, Bool.not_true, Bool.not_false, Bool.not_not, decide_eq_true_eq, decide_eq_false_iff_not, ge_iff_le, gt_iff_lt] at h)))
      · repeat' (first
    | simp only [*, go_nil, go_seq, go_cond, go_block, go_blk, go_skip, go_exit, go_retc, go_xcode, go_xblk, go_loop, go_region, go_draw, go_ops_nil, go_dops_nil, go_ops, go_dops, okG_some, okB_some, gwD_bool, gwD_undef, cwD_bool, gw_true, gw_false, guardG_none, guardG, opG, opD, isPtr, inB, sval, stake, eats, eaters, get, cval, cval1, croom, St.taken, put_slot, put_room, put_box, put_ctr, put_none, dem_none, dem_slot, dem_box, dem_ctr, dem_room, dem_room1, setBox_slot, setBox_room, setBox_ctr, setBox_box, entry_slot, entry_room, entry_box, entry_ctr, endQ, endR, endV, rvars, rvar, room1, ↓reduceIte, Nat.reduceEqDiff, Nat.reduceLT, Nat.reduceLeDiff, reduceCtorEq, decide_true, decide_false, List.filterMap_cons, List.filterMap_nil, Option.bind_some, Option.map_some, Option.bind_none, Option.map_none, List.getElem?_cons_zero, List.getElem?_cons_succ, List.getD_cons_zero, List.getD_cons_succ, List.contains_cons, List.contains_nil, List.map_cons, List.map_nil, beq_self_eq_true, beq_iff_eq, Bool.or_false, Bool.false_or, Bool.or_true, Bool.true_or, Bool.and_true, Bool.true_and, Nat.reduceBEq, Bool.false_eq_true, dbin, dIntBin, okR, callG, endN, newV, rowS, frzS, frzOf_def, frz_nil, frz_cons, frzD, rowList, rowElem, stepRow, madeRow, isLocal, isAlloc, loadsOwn, ptrAt, beq_true, beq_false, Bool.not_true, Bool.not_false, pureB, leaf, leafN, List.all_cons, List.all_nil, List.nil_append, List.cons_append, List.append_nil, List.take_nil, List.range_zero, List.length_nil, List.length_cons, String.reduceBEq, Bool.true_beq, Bool.false_beq, List.find?_cons, List.find?_nil, dun, List.getElem?_nil, List.take_zero, List.drop_zero, List.take_succ_cons, List.drop_succ_cons, dcells, Nat.zero_add, Nat.reduceAdd, Nat.reduceSub, Nat.reduceMul, stepBox, Bool.and_false, Bool.false_and, and_true, true_and, List.zipWith, Option.getD_some, List.singleton_append, List.map_map, Int.natCast_nonneg, Int.toNat_natCast, and_self, Nat.mul_one, Nat.add_zero, if_true, St.freeze, false_or, or_true, true_or, or_false, szOk_cons, szOk_nil, List.cons.injEq, false_and, and_false, forall_const, List.getElem?_toArray, List.getElem_toArray, dopt, dbound, ge_iff_le, gt_iff_lt, dStrBin, List.take_length, plainR_s, Int.reduceLE, Int.reduceLT, Int.reduceToNat, Int.reduceBEq, Int.reduceBNe, isBar, optIn, allocKeys, takes, ptrArgs, callArgs, ptrIn_nil, ptrIn_int, ptrIn_bool, ptrIn_str, ptrIn_agg, ptrIn_list, ptrIn_fix, ptrIn_con, ptrIn_ptr, ptrIn1, ren, ren1, argOk, argOk1, given, oroom, putR, padR, clearR, vroom, nilR, Option.isSome_none, Option.isSome_some, stepTake, stepPtr, notAgg, ite_self, ty3, dp3, ty4, dp4, ty23, dp23, fa23_0, fp23_0, fa23_1, fp23_1, fa23_2, fp23_2, ty25, dp25, fa25_0, fp25_0, fa25_1, fp25_1, fa25_2, fp25_2, fa25_3, fp25_3, dp23_1_6, ty53, dp53, ia53, len53, bs53_2, bs53_3, frzOps_nil, neq23, neq25, eq23, eq25, Nat.le_refl, Nat.sub_self, Option.some.injEq]
    | (refine drW_intro (by kernel_rfl) ?_)
    | (refine gw_intro (fun h => ?_) (fun h => ?_) <;> (try simp only [beq_true, beq_false, Bool.not_eq_eq_eq_not, Bool.not_true, Bool.not_false, Bool.not_not, decide_eq_true_eq, decide_eq_false_iff_not, ge_iff_le, gt_iff_lt] at h)))
    · have e2 : (a2 != b2) = true := by simpa using c2
      rw [if_pos c2]
      clear c2
      by_cases c3 : a2 < b2
      · repeat' (first
    | simp only [*, go_nil, go_seq, go_cond, go_block, go_blk, go_skip, go_exit, go_retc, go_xcode, go_xblk, go_loop, go_region, go_draw, go_ops_nil, go_dops_nil, go_ops, go_dops, okG_some, okB_some, gwD_bool, gwD_undef, cwD_bool, gw_true, gw_false, guardG_none, guardG, opG, opD, isPtr, inB, sval, stake, eats, eaters, get, cval, cval1, croom, St.taken, put_slot, put_room, put_box, put_ctr, put_none, dem_none, dem_slot, dem_box, dem_ctr, dem_room, dem_room1, setBox_slot, setBox_room, setBox_ctr, setBox_box, entry_slot, entry_room, entry_box, entry_ctr, endQ, endR, endV, rvars, rvar, room1, ↓reduceIte, Nat.reduceEqDiff, Nat.reduceLT, Nat.reduceLeDiff, reduceCtorEq, decide_true, decide_false, List.filterMap_cons, List.filterMap_nil, Option.bind_some, Option.map_some, Option.bind_none, Option.map_none, List.getElem?_cons_zero, List.getElem?_cons_succ, List.getD_cons_zero, List.getD_cons_succ, List.contains_cons, List.contains_nil, List.map_cons, List.map_nil, beq_self_eq_true, beq_iff_eq, Bool.or_false, Bool.false_or, Bool.or_true, Bool.true_or, Bool.and_true, Bool.true_and, Nat.reduceBEq, Bool.false_eq_true, dbin, dIntBin, okR, callG, endN, newV, rowS, frzS, frzOf_def, frz_nil, frz_cons, frzD, rowList, rowElem, stepRow, madeRow, isLocal, isAlloc, loadsOwn, ptrAt, beq_true, beq_false, Bool.not_true, Bool.not_false, pureB, leaf, leafN, List.all_cons, List.all_nil, List.nil_append, List.cons_append, List.append_nil, List.take_nil, List.range_zero, List.length_nil, List.length_cons, String.reduceBEq, Bool.true_beq, Bool.false_beq, List.find?_cons, List.find?_nil, dun, List.getElem?_nil, List.take_zero, List.drop_zero, List.take_succ_cons, List.drop_succ_cons, dcells, Nat.zero_add, Nat.reduceAdd, Nat.reduceSub, Nat.reduceMul, stepBox, Bool.and_false, Bool.false_and, and_true, true_and, List.zipWith, Option.getD_some, List.singleton_append, List.map_map, Int.natCast_nonneg, Int.toNat_natCast, and_self, Nat.mul_one, Nat.add_zero, if_true, St.freeze, false_or, or_true, true_or, or_false, szOk_cons, szOk_nil, List.cons.injEq, false_and, and_false, forall_const, List.getElem?_toArray, List.getElem_toArray, dopt, dbound, ge_iff_le, gt_iff_lt, dStrBin, List.take_length, plainR_s, Int.reduceLE, Int.reduceLT, Int.reduceToNat, Int.reduceBEq, Int.reduceBNe, isBar, optIn, allocKeys, takes, ptrArgs, callArgs, ptrIn_nil, ptrIn_int, ptrIn_bool, ptrIn_str, ptrIn_agg, ptrIn_list, ptrIn_fix, ptrIn_con, ptrIn_ptr, ptrIn1, ren, ren1, argOk, argOk1, given, oroom, putR, padR, clearR, vroom, nilR, Option.isSome_none, Option.isSome_some, stepTake, stepPtr, notAgg, ite_self, ty3, dp3, ty4, dp4, ty23, dp23, fa23_0, fp23_0, fa23_1, fp23_1, fa23_2, fp23_2, ty25, dp25, fa25_0, fp25_0, fa25_1, fp25_1, fa25_2, fp25_2, fa25_3, fp25_3, dp23_1_6, ty53, dp53, ia53, len53, bs53_2, bs53_3, frzOps_nil, neq23, neq25, eq23, eq25, Nat.le_refl, Nat.sub_self, Option.some.injEq]
    | (refine drW_intro (by kernel_rfl) ?_)
    | (refine gw_intro (fun h => ?_) (fun h => ?_) <;> (try simp only [beq_true, beq_false, Bool.not_eq_eq_eq_not, Bool.not_true, Bool.not_false, Bool.not_not, decide_eq_true_eq, decide_eq_false_iff_not, ge_iff_le, gt_iff_lt] at h)))
      · repeat' (first
    | simp only [*, go_nil, go_seq, go_cond, go_block, go_blk, go_skip, go_exit, go_retc, go_xcode, go_xblk, go_loop, go_region, go_draw, go_ops_nil, go_dops_nil, go_ops, go_dops, okG_some, okB_some, gwD_bool, gwD_undef, cwD_bool, gw_true, gw_false, guardG_none, guardG, opG, opD, isPtr, inB, sval, stake, eats, eaters, get, cval, cval1, croom, St.taken, put_slot, put_room, put_box, put_ctr, put_none, dem_none, dem_slot, dem_box, dem_ctr, dem_room, dem_room1, setBox_slot, setBox_room, setBox_ctr, setBox_box, entry_slot, entry_room, entry_box, entry_ctr, endQ, endR, endV, rvars, rvar, room1, ↓reduceIte, Nat.reduceEqDiff, Nat.reduceLT, Nat.reduceLeDiff, reduceCtorEq, decide_true, decide_false, List.filterMap_cons, List.filterMap_nil, Option.bind_some, Option.map_some, Option.bind_none, Option.map_none, List.getElem?_cons_zero, List.getElem?_cons_succ, List.getD_cons_zero, List.getD_cons_succ, List.contains_cons, List.contains_nil, List.map_cons, List.map_nil, beq_self_eq_true, beq_iff_eq, Bool.or_false, Bool.false_or, Bool.or_true, Bool.true_or, Bool.and_true, Bool.true_and, Nat.reduceBEq, Bool.false_eq_true, dbin, dIntBin, okR, callG, endN, newV, rowS, frzS, frzOf_def, frz_nil, frz_cons, frzD, rowList, rowElem, stepRow, madeRow, isLocal, isAlloc, loadsOwn, ptrAt, beq_true, beq_false, Bool.not_true, Bool.not_false, pureB, leaf, leafN, List.all_cons, List.all_nil, List.nil_append, List.cons_append, List.append_nil, List.take_nil, List.range_zero, List.length_nil, List.length_cons, String.reduceBEq, Bool.true_beq, Bool.false_beq, List.find?_cons, List.find?_nil, dun, List.getElem?_nil, List.take_zero, List.drop_zero, List.take_succ_cons, List.drop_succ_cons, dcells, Nat.zero_add, Nat.reduceAdd, Nat.reduceSub, Nat.reduceMul, stepBox, Bool.and_false, Bool.false_and, and_true, true_and, List.zipWith, Option.getD_some, List.singleton_append, List.map_map, Int.natCast_nonneg, Int.toNat_natCast, and_self, Nat.mul_one, Nat.add_zero, if_true, St.freeze, false_or, or_true, true_or, or_false, szOk_cons, szOk_nil, List.cons.injEq, false_and, and_false, forall_const, List.getElem?_toArray, List.getElem_toArray, dopt, dbound, ge_iff_le, gt_iff_lt, dStrBin, List.take_length, plainR_s, Int.reduceLE, Int.reduceLT, Int.reduceToNat, Int.reduceBEq, Int.reduceBNe, isBar, optIn, allocKeys, takes, ptrArgs, callArgs, ptrIn_nil, ptrIn_int, ptrIn_bool, ptrIn_str, ptrIn_agg, ptrIn_list, ptrIn_fix, ptrIn_con, ptrIn_ptr, ptrIn1, ren, ren1, argOk, argOk1, given, oroom, putR, padR, clearR, vroom, nilR, Option.isSome_none, Option.isSome_some, stepTake, stepPtr, notAgg, ite_self, ty3, dp3, ty4, dp4, ty23, dp23, fa23_0, fp23_0, fa23_1, fp23_1, fa23_2, fp23_2, ty25, dp25, fa25_0, fp25_0, fa25_1, fp25_1, fa25_2, fp25_2, fa25_3, fp25_3, dp23_1_6, ty53, dp53, ia53, len53, bs53_2, bs53_3, frzOps_nil, neq23, neq25, eq23, eq25, Nat.le_refl, Nat.sub_self, Option.some.injEq]
    | (refine drW_intro (by kernel_rfl) ?_)
    | (refine gw_intro (fun h => ?_) (fun h => ?_) <;> (try simp only [beq_true, beq_false, Bool.not_eq_eq_eq_not, Bool.not_true, Bool.not_false, Bool.not_not, decide_eq_true_eq, decide_eq_false_iff_not, ge_iff_le, gt_iff_lt] at h)))
  · have e1 : (a1 != b1) = true := by simpa using c1
    rw [if_pos c1]
    clear c1
    by_cases c3 : a1 < b1
    · repeat' (first
    | simp only [*, go_nil, go_seq, go_cond, go_block, go_blk, go_skip, go_exit, go_retc, go_xcode, go_xblk, go_loop, go_region, go_draw, go_ops_nil, go_dops_nil, go_ops, go_dops, okG_some, okB_some, gwD_bool, gwD_undef, cwD_bool, gw_true, gw_false, guardG_none, guardG, opG, opD, isPtr, inB, sval, stake, eats, eaters, get, cval, cval1, croom, St.taken, put_slot, put_room, put_box, put_ctr, put_none, dem_none, dem_slot, dem_box, dem_ctr, dem_room, dem_room1, setBox_slot, setBox_room, setBox_ctr, setBox_box, entry_slot, entry_room, entry_box, entry_ctr, endQ, endR, endV, rvars, rvar, room1, ↓reduceIte, Nat.reduceEqDiff, Nat.reduceLT, Nat.reduceLeDiff, reduceCtorEq, decide_true, decide_false, List.filterMap_cons, List.filterMap_nil, Option.bind_some, Option.map_some, Option.bind_none, Option.map_none, List.getElem?_cons_zero, List.getElem?_cons_succ, List.getD_cons_zero, List.getD_cons_succ, List.contains_cons, List.contains_nil, List.map_cons, List.map_nil, beq_self_eq_true, beq_iff_eq, Bool.or_false, Bool.false_or, Bool.or_true, Bool.true_or, Bool.and_true, Bool.true_and, Nat.reduceBEq, Bool.false_eq_true, dbin, dIntBin, okR, callG, endN, newV, rowS, frzS, frzOf_def, frz_nil, frz_cons, frzD, rowList, rowElem, stepRow, madeRow, isLocal, isAlloc, loadsOwn, ptrAt, beq_true, beq_false, Bool.not_true, Bool.not_false, pureB, leaf, leafN, List.all_cons, List.all_nil, List.nil_append, List.cons_append, List.append_nil, List.take_nil, List.range_zero, List.length_nil, List.length_cons, String.reduceBEq, Bool.true_beq, Bool.false_beq, List.find?_cons, List.find?_nil, dun, List.getElem?_nil, List.take_zero, List.drop_zero, List.take_succ_cons, List.drop_succ_cons, dcells, Nat.zero_add, Nat.reduceAdd, Nat.reduceSub, Nat.reduceMul, stepBox, Bool.and_false, Bool.false_and, and_true, true_and, List.zipWith, Option.getD_some, List.singleton_append, List.map_map, Int.natCast_nonneg, Int.toNat_natCast, and_self, Nat.mul_one, Nat.add_zero, if_true, St.freeze, false_or, or_true, true_or, or_false, szOk_cons, szOk_nil, List.cons.injEq, false_and, and_false, forall_const, List.getElem?_toArray, List.getElem_toArray, dopt, dbound, ge_iff_le, gt_iff_lt, dStrBin, List.take_length, plainR_s, Int.reduceLE, Int.reduceLT, Int.reduceToNat, Int.reduceBEq, Int.reduceBNe, isBar, optIn, allocKeys, takes, ptrArgs, callArgs, ptrIn_nil, ptrIn_int, ptrIn_bool, ptrIn_str, ptrIn_agg, ptrIn_list, ptrIn_fix, ptrIn_con, ptrIn_ptr, ptrIn1, ren, ren1, argOk, argOk1, given, oroom, putR, padR, clearR, vroom, nilR, Option.isSome_none, Option.isSome_some, stepTake, stepPtr, notAgg, ite_self, ty3, dp3, ty4, dp4, ty23, dp23, fa23_0, fp23_0, fa23_1, fp23_1, fa23_2, fp23_2, ty25, dp25, fa25_0, fp25_0, fa25_1, fp25_1, fa25_2, fp25_2, fa25_3, fp25_3, dp23_1_6, ty53, dp53, ia53, len53, bs53_2, bs53_3, frzOps_nil, neq23, neq25, eq23, eq25, Nat.le_refl, Nat.sub_self, Option.some.injEq]
    | (refine drW_intro (by kernel_rfl) ?_)
    | (refine gw_intro (fun h => ?_) (fun h => ?_) <;> (try simp only [beq_true, beq_false, Bool.not_eq_eq_eq_not, Bool.not_true, Bool.not_false, Bool.not_not, decide_eq_true_eq, decide_eq_false_iff_not, ge_iff_le, gt_iff_lt] at h)))
    · repeat' (first
    | simp only [*, go_nil, go_seq, go_cond, go_block, go_blk, go_skip, go_exit, go_retc, go_xcode, go_xblk, go_loop, go_region, go_draw, go_ops_nil, go_dops_nil, go_ops, go_dops, okG_some, okB_some, gwD_bool, gwD_undef, cwD_bool, gw_true, gw_false, guardG_none, guardG, opG, opD, isPtr, inB, sval, stake, eats, eaters, get, cval, cval1, croom, St.taken, put_slot, put_room, put_box, put_ctr, put_none, dem_none, dem_slot, dem_box, dem_ctr, dem_room, dem_room1, setBox_slot, setBox_room, setBox_ctr, setBox_box, entry_slot, entry_room, entry_box, entry_ctr, endQ, endR, endV, rvars, rvar, room1, ↓reduceIte, Nat.reduceEqDiff, Nat.reduceLT, Nat.reduceLeDiff, reduceCtorEq, decide_true, decide_false, List.filterMap_cons, List.filterMap_nil, Option.bind_some, Option.map_some, Option.bind_none, Option.map_none, List.getElem?_cons_zero, List.getElem?_cons_succ, List.getD_cons_zero, List.getD_cons_succ, List.contains_cons, List.contains_nil, List.map_cons, List.map_nil, beq_self_eq_true, beq_iff_eq, Bool.or_false, Bool.false_or, Bool.or_true, Bool.true_or, Bool.and_true, Bool.true_and, Nat.reduceBEq, Bool.false_eq_true, dbin, dIntBin, okR, callG, endN, newV, rowS, frzS, frzOf_def, frz_nil, frz_cons, frzD, rowList, rowElem, stepRow, madeRow, isLocal, isAlloc, loadsOwn, ptrAt, beq_true, beq_false, Bool.not_true, Bool.not_false, pureB, leaf, leafN, List.all_cons, List.all_nil, List.nil_append, List.cons_append, List.append_nil, List.take_nil, List.range_zero, List.length_nil, List.length_cons, String.reduceBEq, Bool.true_beq, Bool.false_beq, List.find?_cons, List.find?_nil, dun, List.getElem?_nil, List.take_zero, List.drop_zero, List.take_succ_cons, List.drop_succ_cons, dcells, Nat.zero_add, Nat.reduceAdd, Nat.reduceSub, Nat.reduceMul, stepBox, Bool.and_false, Bool.false_and, and_true, true_and, List.zipWith, Option.getD_some, List.singleton_append, List.map_map, Int.natCast_nonneg, Int.toNat_natCast, and_self, Nat.mul_one, Nat.add_zero, if_true, St.freeze, false_or, or_true, true_or, or_false, szOk_cons, szOk_nil, List.cons.injEq, false_and, and_false, forall_const, List.getElem?_toArray, List.getElem_toArray, dopt, dbound, ge_iff_le, gt_iff_lt, dStrBin, List.take_length, plainR_s, Int.reduceLE, Int.reduceLT, Int.reduceToNat, Int.reduceBEq, Int.reduceBNe, isBar, optIn, allocKeys, takes, ptrArgs, callArgs, ptrIn_nil, ptrIn_int, ptrIn_bool, ptrIn_str, ptrIn_agg, ptrIn_list, ptrIn_fix, ptrIn_con, ptrIn_ptr, ptrIn1, ren, ren1, argOk, argOk1, given, oroom, putR, padR, clearR, vroom, nilR, Option.isSome_none, Option.isSome_some, stepTake, stepPtr, notAgg, ite_self, ty3, dp3, ty4, dp4, ty23, dp23, fa23_0, fp23_0, fa23_1, fp23_1, fa23_2, fp23_2, ty25, dp25, fa25_0, fp25_0, fa25_1, fp25_1, fa25_2, fp25_2, fa25_3, fp25_3, dp23_1_6, ty53, dp53, ia53, len53, bs53_2, bs53_3, frzOps_nil, neq23, neq25, eq23, eq25, Nat.le_refl, Nat.sub_self, Option.some.injEq]
    | (refine drW_intro (by kernel_rfl) ?_)
    | (refine gw_intro (fun h => ?_) (fun h => ?_) <;> (try simp only [beq_true, beq_false, Bool.not_eq_eq_eq_not, Bool.not_true, Bool.not_false, Bool.not_not, decide_eq_true_eq, decide_eq_false_iff_not, ge_iff_le, gt_iff_lt] at h)))
/-- A truth as a number. -/
def rankF (b : Bool) : Int := if b then 1 else 0
theorem rank_L (b : Bool) : callL Tryz.prog ext21 25 [.bool b] [] = some (.int .i64 (rankF b), [.no], []) := by
  refine callK (m := 4) (res := [2]) (rs := [.tmp 2]) rfl Tryz.func25 rfl rfl rfl rfl rfl ?_
  unfold rankF
  cases b
  · repeat' (first
    | simp only [*, go_nil, go_seq, go_cond, go_block, go_blk, go_skip, go_exit, go_retc, go_xcode, go_xblk, go_loop, go_region, go_draw, go_ops_nil, go_dops_nil, go_ops, go_dops, okG_some, okB_some, gwD_bool, gwD_undef, cwD_bool, gw_true, gw_false, guardG_none, guardG, opG, opD, isPtr, inB, sval, stake, eats, eaters, get, cval, cval1, croom, St.taken, put_slot, put_room, put_box, put_ctr, put_none, dem_none, dem_slot, dem_box, dem_ctr, dem_room, dem_room1, setBox_slot, setBox_room, setBox_ctr, setBox_box, entry_slot, entry_room, entry_box, entry_ctr, endQ, endR, endV, rvars, rvar, room1, ↓reduceIte, Nat.reduceEqDiff, Nat.reduceLT, Nat.reduceLeDiff, reduceCtorEq, decide_true, decide_false, List.filterMap_cons, List.filterMap_nil, Option.bind_some, Option.map_some, Option.bind_none, Option.map_none, List.getElem?_cons_zero, List.getElem?_cons_succ, List.getD_cons_zero, List.getD_cons_succ, List.contains_cons, List.contains_nil, List.map_cons, List.map_nil, beq_self_eq_true, beq_iff_eq, Bool.or_false, Bool.false_or, Bool.or_true, Bool.true_or, Bool.and_true, Bool.true_and, Nat.reduceBEq, Bool.false_eq_true, dbin, dIntBin, okR, callG, endN, newV, rowS, frzS, frzOf_def, frz_nil, frz_cons, frzD, rowList, rowElem, stepRow, madeRow, isLocal, isAlloc, loadsOwn, ptrAt, beq_true, beq_false, Bool.not_true, Bool.not_false, pureB, leaf, leafN, List.all_cons, List.all_nil, List.nil_append, List.cons_append, List.append_nil, List.take_nil, List.range_zero, List.length_nil, List.length_cons, String.reduceBEq, Bool.true_beq, Bool.false_beq, List.find?_cons, List.find?_nil, dun, List.getElem?_nil, List.take_zero, List.drop_zero, List.take_succ_cons, List.drop_succ_cons, dcells, Nat.zero_add, Nat.reduceAdd, Nat.reduceSub, Nat.reduceMul, stepBox, Bool.and_false, Bool.false_and, and_true, true_and, List.zipWith, Option.getD_some, List.singleton_append, List.map_map, Int.natCast_nonneg, Int.toNat_natCast, and_self, Nat.mul_one, Nat.add_zero, if_true, St.freeze, false_or, or_true, true_or, or_false, szOk_cons, szOk_nil, List.cons.injEq, false_and, and_false, forall_const, List.getElem?_toArray, List.getElem_toArray, dopt, dbound, ge_iff_le, gt_iff_lt, dStrBin, List.take_length, plainR_s, Int.reduceLE, Int.reduceLT, Int.reduceToNat, Int.reduceBEq, Int.reduceBNe, isBar, optIn, allocKeys, takes, ptrArgs, callArgs, ptrIn_nil, ptrIn_int, ptrIn_bool, ptrIn_str, ptrIn_agg, ptrIn_list, ptrIn_fix, ptrIn_con, ptrIn_ptr, ptrIn1, ren, ren1, argOk, argOk1, given, oroom, putR, padR, clearR, vroom, nilR, Option.isSome_none, Option.isSome_some, stepTake, stepPtr, notAgg, ite_self, ty3, dp3, ty4, dp4, ty23, dp23, fa23_0, fp23_0, fa23_1, fp23_1, fa23_2, fp23_2, ty25, dp25, fa25_0, fp25_0, fa25_1, fp25_1, fa25_2, fp25_2, fa25_3, fp25_3, dp23_1_6, ty53, dp53, ia53, len53, bs53_2, bs53_3, frzOps_nil, neq23, neq25, eq23, eq25, Nat.le_refl, Nat.sub_self, Option.some.injEq]
    | (refine drW_intro (by kernel_rfl) ?_)
    | (refine gw_intro (fun h => ?_) (fun h => ?_) <;> (try simp only [beq_true, beq_false, Bool.not_eq_eq_eq_not, Bool.not_true, Bool.not_false, Bool.not_not, decide_eq_true_eq, decide_eq_false_iff_not, ge_iff_le, gt_iff_lt] at h)))
  · repeat' (first
    | simp only [*, go_nil, go_seq, go_cond, go_block, go_blk, go_skip, go_exit, go_retc, go_xcode, go_xblk, go_loop, go_region, go_draw, go_ops_nil, go_dops_nil, go_ops, go_dops, okG_some, okB_some, gwD_bool, gwD_undef, cwD_bool, gw_true, gw_false, guardG_none, guardG, opG, opD, isPtr, inB, sval, stake, eats, eaters, get, cval, cval1, croom, St.taken, put_slot, put_room, put_box, put_ctr, put_none, dem_none, dem_slot, dem_box, dem_ctr, dem_room, dem_room1, setBox_slot, setBox_room, setBox_ctr, setBox_box, entry_slot, entry_room, entry_box, entry_ctr, endQ, endR, endV, rvars, rvar, room1, ↓reduceIte, Nat.reduceEqDiff, Nat.reduceLT, Nat.reduceLeDiff, reduceCtorEq, decide_true, decide_false, List.filterMap_cons, List.filterMap_nil, Option.bind_some, Option.map_some, Option.bind_none, Option.map_none, List.getElem?_cons_zero, List.getElem?_cons_succ, List.getD_cons_zero, List.getD_cons_succ, List.contains_cons, List.contains_nil, List.map_cons, List.map_nil, beq_self_eq_true, beq_iff_eq, Bool.or_false, Bool.false_or, Bool.or_true, Bool.true_or, Bool.and_true, Bool.true_and, Nat.reduceBEq, Bool.false_eq_true, dbin, dIntBin, okR, callG, endN, newV, rowS, frzS, frzOf_def, frz_nil, frz_cons, frzD, rowList, rowElem, stepRow, madeRow, isLocal, isAlloc, loadsOwn, ptrAt, beq_true, beq_false, Bool.not_true, Bool.not_false, pureB, leaf, leafN, List.all_cons, List.all_nil, List.nil_append, List.cons_append, List.append_nil, List.take_nil, List.range_zero, List.length_nil, List.length_cons, String.reduceBEq, Bool.true_beq, Bool.false_beq, List.find?_cons, List.find?_nil, dun, List.getElem?_nil, List.take_zero, List.drop_zero, List.take_succ_cons, List.drop_succ_cons, dcells, Nat.zero_add, Nat.reduceAdd, Nat.reduceSub, Nat.reduceMul, stepBox, Bool.and_false, Bool.false_and, and_true, true_and, List.zipWith, Option.getD_some, List.singleton_append, List.map_map, Int.natCast_nonneg, Int.toNat_natCast, and_self, Nat.mul_one, Nat.add_zero, if_true, St.freeze, false_or, or_true, true_or, or_false, szOk_cons, szOk_nil, List.cons.injEq, false_and, and_false, forall_const, List.getElem?_toArray, List.getElem_toArray, dopt, dbound, ge_iff_le, gt_iff_lt, dStrBin, List.take_length, plainR_s, Int.reduceLE, Int.reduceLT, Int.reduceToNat, Int.reduceBEq, Int.reduceBNe, isBar, optIn, allocKeys, takes, ptrArgs, callArgs, ptrIn_nil, ptrIn_int, ptrIn_bool, ptrIn_str, ptrIn_agg, ptrIn_list, ptrIn_fix, ptrIn_con, ptrIn_ptr, ptrIn1, ren, ren1, argOk, argOk1, given, oroom, putR, padR, clearR, vroom, nilR, Option.isSome_none, Option.isSome_some, stepTake, stepPtr, notAgg, ite_self, ty3, dp3, ty4, dp4, ty23, dp23, fa23_0, fp23_0, fa23_1, fp23_1, fa23_2, fp23_2, ty25, dp25, fa25_0, fp25_0, fa25_1, fp25_1, fa25_2, fp25_2, fa25_3, fp25_3, dp23_1_6, ty53, dp53, ia53, len53, bs53_2, bs53_3, frzOps_nil, neq23, neq25, eq23, eq25, Nat.le_refl, Nat.sub_self, Option.some.injEq]
    | (refine drW_intro (by kernel_rfl) ?_)
    | (refine gw_intro (fun h => ?_) (fun h => ?_) <;> (try simp only [beq_true, beq_false, Bool.not_eq_eq_eq_not, Bool.not_true, Bool.not_false, Bool.not_not, decide_eq_true_eq, decide_eq_false_iff_not, ge_iff_le, gt_iff_lt] at h)))
/-- Which weight comes ahead. -/
def beatsF (a0 : Bool) (a1 a2 a3 a4 a5 : Int) (b0 : Bool) (b1 b2 b3 b4 b5 : Int) : Bool :=
  if a0 ≠ b0 then a0 else if ¬ (a1 = b1 ∧ a2 = b2 ∧ a3 = b3) then lessF b1 b2 b3 a1 a2 a3 else if a4 ≠ b4 then decide (a4 > b4) else decide (a5 > b5)
theorem or2 (a1 a2 b1 b2 : Int) : decide (orF [cmpF a1 b1, cmpF a2 b2] > 0) = if a1 ≠ b1 then decide (a1 > b1) else decide (a2 > b2) := by
  have h : ∀ a b : Int, (cmpF a b = 0 ↔ a = b) ∧ (cmpF a b > 0 ↔ a > b) := by
    intro a b
    unfold cmpF
    split
    · omega
    · split <;> omega
  unfold orF orF orF
  have h1 := h a1 b1
  have h2 := h a2 b2
  by_cases c1 : a1 = b1
  · rw [if_pos (h1.1.2 c1), if_neg (show ¬ (a1 ≠ b1) from fun hh => hh c1)]
    by_cases c2 : a2 = b2
    · rw [if_pos (h2.1.2 c2)]
      have c4 : ¬ a2 > b2 := by omega
      rw [decide_eq_false c4]
      rfl
    · rw [if_neg (fun hh => c2 (h2.1.1 hh))]
      exact decide_eq_decide.2 h2.2
  · rw [if_neg (fun hh => c1 (h1.1.1 hh)), if_pos c1]
    exact decide_eq_decide.2 h1.2
theorem cmp_rank (a b : Bool) : cmpF (rankF a) (rankF b) = if a = b then 0 else if a then 1 else -1 := by
  cases a <;> cases b <;> rfl
theorem and3 (a1 a2 a3 b1 b2 b3 : Int) : (a1 == b1 && (a2 == b2 && (a3 == b3))) = decide (a1 = b1 ∧ a2 = b2 ∧ a3 = b3) := by
  rw [Bool.decide_and, Bool.decide_and]
  rfl
end Go.Av
