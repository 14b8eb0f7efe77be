/- The evaluator as a chain of questions, for simp: each is answered before the next one is asked. Over any program. -/
import Derived.Test.YtcblgonlgnhgmaaAvL
set_option linter.unusedSimpArgs false
set_option linter.unusedVariables false
set_option linter.unusedSectionVars false
namespace Go.Av
open Go.RowKit
variable [Gs]

def okP (r : Option (D × List Room)) (f : D → List Room → Prop) : Prop := match r with | some (d, r) => f d r | none => False
def okS (r : Option St) (f : St → Prop) : Prop := match r with | some s => f s | none => False
/-- Both ways of a truth. -/
def gd (b : Bool) (A B : Prop) : Prop := (b = true → A) ∧ (b = false → B)
def gdD (d : D) (want : Bool) (A B : Prop) : Prop := match d with | .bool b => gd (b == want) A B | .tuple [] => B | _ => False
def cdD (d : D) (A B : Prop) : Prop := match d with | .bool b => gd b A B | _ => False
def hdP (l : List D) (A B : Prop) : Prop := match l with | .ptr _ _ _ :: _ => A | _ => B
def dwP (_n : Nat) (b : Bool) (A : Prop) : Prop := b = true ∧ A
theorem okP_congr {r r' : Option (D × List Room)} {f : D → List Room → Prop} (h : r = r') : okP r f = okP r' f := by rw [h]
theorem okS_congr {r r' : Option St} {f : St → Prop} (h : r = r') : okS r f = okS r' f := by rw [h]
theorem gd_congr {b b' : Bool} {A B : Prop} (h : b = b') : gd b A B = gd b' A B := by rw [h]
theorem gdD_congr {d d' : D} {w : Bool} {A B : Prop} (h : d = d') : gdD d w A B = gdD d' w A B := by rw [h]
theorem cdD_congr {d d' : D} {A B : Prop} (h : d = d') : cdD d A B = cdD d' A B := by rw [h]
theorem hdP_congr {l l' : List D} {A B : Prop} (h : l = l') : hdP l A B = hdP l' A B := by rw [h]
theorem dwP_congr {n n' : Nat} {b : Bool} {A : Prop} (h : n = n') : dwP n b A = dwP n' b A := rfl
theorem okP_some (d : D) (r : List Room) (f : D → List Room → Prop) : okP (some (d, r)) f = f d r := rfl
theorem okS_some (s : St) (f : St → Prop) : okS (some s) f = f s := rfl
theorem gd_true (A B : Prop) : gd true A B = A := by simp [gd]
theorem gd_false (A B : Prop) : gd false A B = B := by simp [gd]
theorem gdD_bool (b w : Bool) (A B : Prop) : gdD (.bool b) w A B = gd (b == w) A B := rfl
theorem gdD_undef (w : Bool) (A B : Prop) : gdD (.tuple []) w A B = B := rfl
theorem cdD_bool (b : Bool) (A B : Prop) : cdD (.bool b) A B = gd b A B := rfl
theorem gd_intro {b : Bool} {A B : Prop} (h : b = true → A) (h' : b = false → B) : gd b A B := ⟨h, h'⟩
theorem dw_intro {n : Nat} {b : Bool} {A : Prop} (h : b = true) (h' : A) : dwP n b A := ⟨h, h'⟩

section
variable (P : Program) (ext : Call) (n : Nat) (E : List Tmp)
def stepK (ops : List Oper) (o : Oper) (s : St) (K : St → Prop) : Prop :=
  match o.op with
  | .alloc _ | .box _ _ | .store _ _ _ => okS (stepBox P o s) K
  | .call c => hdP (c.args.toList.map (get s.slot)) (okS (stepPtr (callL P ext) o s) K) (okS (stepC P (callL P ext) E o s) K)
  | _ => okP (sval P (callL P ext) s.slot s.box (s.taken (stake E o)) o) fun d r => K ((s.demote (stake E o)).put o.dst d r)
def stepDK (ops : List Oper) (o : Oper) (s : St) (K : St → Prop) : Prop :=
  match o.op with
  | .alloc _ => if allocKey ops = o.dst then okS (stepBox P o s) K else False
  | .box _ _ => False
  | .store _ (.tmp k) _ => if allocKey ops = some k ∧ o.dst = none ∧ ptrAt s.slot k = true then okS (stepBox P o s) K else False
  | .store _ _ _ => False
  | .load _ _ => if loadsOwn (allocKey ops) s.slot o = true then False else okP (sval P (callL P ext) s.slot s.box (s.taken (stake E o)) o) fun d r => K ((s.demote (stake E o)).put o.dst d r)
  | .call c => hdP (c.args.toList.map (get s.slot)) False
      (okP (sval P (callL P ext) s.slot s.box (s.taken (stake E o)) o) fun d r => K ((s.demote (stake E o)).put o.dst d r))
  | _ => okP (sval P (callL P ext) s.slot s.box (s.taken (stake E o)) o) fun d r => K ((s.demote (stake E o)).put o.dst d r)
def guardK (_n : Nat) (ops : List Oper) (o : Oper) (s : St) (A B : Prop) : Prop :=
  match o.guard with
  | none => A
  | some (j, want) => match (ops[j]?).bind (·.dst) with
    | none => False
    | some t => gdD (s.slot t) want A B
def opsK (ops : List Oper) : List Oper → St → (St → Prop) → Prop
  | [], s, K => K s
  | o :: l, s, K => if Gs.rowAt o = true then okS (stepRow P n o s) (fun s' => opsK ops l s' K) else if inB n o = true then guardK n ops o s (stepK P ext E ops o s fun s' => opsK ops l s' K) (opsK ops l (s.put o.dst (.tuple []) []) K) else False
def opsDK (ops : List Oper) : List Oper → St → (St → Prop) → Prop
  | [], s, K => K s
  | [o], s, K => if inB n o = true then guardK n ops o s (if isStore ops o = true then stepK P ext E ops o s K else stepDK P ext E ops o s K) (if isLocal (allocKey ops) o = true then False else K (s.put o.dst (.tuple []) [])) else False
  | o :: l, s, K => if inB n o = true then guardK n ops o s (stepDK P ext E ops o s fun s' => opsDK ops l s' K) (if isLocal (allocKey ops) o = true then False else opsDK ops l (s.put o.dst (.tuple []) []) K) else False
/-- What a drawn region's text must be. -/
def drawShape (ops : List Oper) : Bool :=
  match ops.getLast? with
  | none => true
  | some o => if isStore ops o then drawOk E ops (ops.length - 1) && (o.after.all fun e => !Region.binds .any e || decide (e.on < ops.length - 1)) && (List.range (ops.length - 1)).all (edge o) else drawOk E ops ops.length
end
def awp (P : Program) (ext : Call) (n : Nat) (res : List Tmp) : Code → St → (X → St → Prop) → Prop
  | .skip, s, Q => Q .normal s
  | .region _ ops false, s, Q => opsK P ext n (eaters res ops.toList) ops.toList ops.toList (s.frz (Gs.frzAt ops.toList)) (Q .normal)
  | .region _ ops true, s, Q => dwP n (drawShape (eaters res ops.toList) ops.toList) (opsDK P ext n (eaters res ops.toList) ops.toList ops.toList (s.frz (Gs.frzAt ops.toList)) (Q .normal))
  | .seq a b, s, Q => awp P ext n res a s (thenQ (fun s => awp P ext n res b s Q) Q)
  | .cond o a b, s, Q => cdD (get s.slot o) (awp P ext n res a s Q) (awp P ext n res b s Q)
  | .block id b, s, Q => awp P ext n res b s (blockQ id Q)
  | .loop b, s, Q => Awp P ext n res (.loop b) s Q
  | .exit id, s, Q => Q (.exit id) s
  | .ret, s, Q => Q .ret s
  | _, _, _ => False

theorem entry_slot (args : List D) (pbs : List Bx) (j : Nat) : (entry args pbs).slot j = args.getD j (.tuple []) := rfl
theorem entry_room (args : List D) (pbs : List Bx) (j : Nat) : (entry args pbs).room j = [] := rfl
theorem entry_box (args : List D) (pbs : List Bx) (k : Nat) : (entry args pbs).box k = if 1000000 ≤ k then pbs[k - 1000000]? else none := rfl
theorem entry_ctr (args : List D) (pbs : List Bx) : (entry args pbs).ctr = 1 := rfl

section
variable {P : Program} {ext : Call} {n : Nat} {E : List Tmp} {res : List Tmp}
theorem okP_spec {r : Option (D × List Room)} {f : D → List Room → Prop} (h : okP r f) : ∃ d m, r = some (d, m) ∧ f d m := by
  unfold okP at h
  split at h
  · exact ⟨_, _, rfl, h⟩
  · exact h.elim
theorem okS_spec {r : Option St} {f : St → Prop} (h : okS r f) : ∃ s, r = some s ∧ f s := by
  unfold okS at h
  split at h
  · exact ⟨_, rfl, h⟩
  · exact h.elim
theorem guardK_spec {ops : List Oper} {o : Oper} {s : St} {A B : Prop} (h : guardK n ops o s A B) : (dwanted ops s o = some true ∧ A) ∨ (dwanted ops s o = some false ∧ B) := by
  unfold guardK at h
  unfold dwanted
  split at h
  · rename_i hg
    rw [hg]
    exact .inl ⟨rfl, h⟩
  · rename_i j want hg
    rw [hg]
    simp only
    split at h
    · exact h.elim
    · rename_i t ht
      simp only [ht]
      unfold gdD at h
      split at h
      · rename_i b hb
        simp only [hb]
        cases hbw : b == want with
        | true =>
          rw [hbw] at h
          exact .inl ⟨rfl, h.1 rfl⟩
        | false =>
          rw [hbw] at h
          exact .inr ⟨rfl, h.2 rfl⟩
      · rename_i hb
        simp only [hb]
        exact .inr ⟨trivial, h⟩
      · exact h.elim
theorem stepK_spec {ops : List Oper} {o : Oper} {s : St} {K : St → Prop} (hin : inB n o = true) (hw : dwanted ops s o = some true) (h : stepK P ext E ops o s K) : ∃ s', step P (callL P ext) n E ops o s = some s' ∧ K s' := by
  have hS : (okP (sval P (callL P ext) s.slot s.box (s.taken (stake E o)) o) fun d r => K ((s.demote (stake E o)).put o.dst d r)) → ∃ s', stepS P (callL P ext) E o s = some s' ∧ K s' := fun h => by
    obtain ⟨d, m, h1, h2⟩ := okP_spec h
    exact ⟨_, by unfold stepS; rw [h1], h2⟩
  unfold stepK at h
  unfold step
  rw [if_pos hin, hw]
  simp only
  cases hop : o.op with
  | call c =>
    simp only [hop] at h ⊢
    unfold hdP at h
    generalize List.map (get s.slot) c.args.toList = l at h ⊢
    cases l with
    | nil => exact okS_spec h
    | cons x t => cases x <;> exact okS_spec h
  | alloc _ => simp only [hop] at h ⊢; exact okS_spec h
  | box _ _ => simp only [hop] at h ⊢; exact okS_spec h
  | store _ _ _ => simp only [hop] at h ⊢; exact okS_spec h
  | _ => simp only [hop] at h ⊢; exact hS h
theorem stepDK_spec {ops : List Oper} {o : Oper} {s : St} {K : St → Prop} (hin : inB n o = true) (hw : dwanted ops s o = some true) (h : stepDK P ext E ops o s K) : ∃ s', stepD P (callL P ext) n E ops o s = some s' ∧ K s' := by
  have hS : (okP (sval P (callL P ext) s.slot s.box (s.taken (stake E o)) o) fun d r => K ((s.demote (stake E o)).put o.dst d r)) → ∃ s', stepS P (callL P ext) E o s = some s' ∧ K s' := fun h => by
    obtain ⟨d, m, h1, h2⟩ := okP_spec h
    exact ⟨_, by unfold stepS; rw [h1], h2⟩
  unfold stepDK at h
  unfold stepD
  rw [if_pos hin, hw]
  simp only
  cases hop : o.op with
  | call c =>
    simp only [hop] at h ⊢
    unfold hdP at h
    generalize List.map (get s.slot) c.args.toList = l at h ⊢
    cases l with
    | nil => exact hS h
    | cons x t => cases x <;> first | exact h.elim | exact hS h
  | alloc _ =>
    simp only [hop] at h ⊢
    split at h
    · rename_i hk; rw [if_pos hk]; exact okS_spec h
    · exact h.elim
  | box _ _ => simp only [hop] at h
  | store _ a _ =>
    cases a with
    | tmp k =>
      simp only [hop] at h ⊢
      split at h
      · rename_i hk; rw [if_pos hk]; exact okS_spec h
      · exact h.elim
    | _ => simp only [hop] at h
  | load _ _ =>
    simp only [hop] at h ⊢
    split at h
    · exact h.elim
    · rename_i hk; rw [if_neg hk]; exact hS h
  | _ => simp only [hop] at h ⊢; exact hS h
theorem opsK_spec {ops : List Oper} : ∀ {l : List Oper} {s : St} {K : St → Prop}, opsK P ext n E ops l s K → ∃ s', runOps P (callL P ext) n E ops l s = some s' ∧ K s'
  | [], s, K, h => ⟨s, rfl, h⟩
  | o :: l, s, K, h => by
    simp only [opsK] at h
    split at h
    · rename_i hr
      simp only [runOps, if_pos hr]
      obtain ⟨s1, h1, h2⟩ := okS_spec h
      obtain ⟨s2, h3, h4⟩ := opsK_spec h2
      exact ⟨s2, by rw [h1]; exact h3, h4⟩
    rename_i hr
    split at h
    · rename_i hin
      simp only [runOps, if_neg hr]
      rcases guardK_spec h with ⟨hw, h⟩ | ⟨hw, h⟩
      · obtain ⟨s1, h1, h2⟩ := stepK_spec hin hw h
        obtain ⟨s2, h3, h4⟩ := opsK_spec h2
        exact ⟨s2, by rw [h1]; exact h3, h4⟩
      · obtain ⟨s2, h3, h4⟩ := opsK_spec h
        refine ⟨s2, ?_, h4⟩
        have : step P (callL P ext) n E ops o s = some (s.put o.dst (.tuple []) []) := by unfold step; rw [if_pos hin, hw]
        rw [this]
        exact h3
    · exact h.elim
theorem opsDK_spec {ops : List Oper} : ∀ {l : List Oper} {s : St} {K : St → Prop}, opsDK P ext n E ops l s K →
    match l.getLast? with
    | none => K s
    | some o => if isStore ops o = true then ∃ s1 s', runD P (callL P ext) n E ops l.dropLast s = some s1 ∧ step P (callL P ext) n E ops o s1 = some s' ∧ K s' else ∃ s', runD P (callL P ext) n E ops l s = some s' ∧ K s'
  | [], s, K, h => h
  | [o], s, K, h => by
    simp only [opsDK] at h
    simp only [List.getLast?_singleton]
    split at h
    · rename_i hin
      by_cases hs : isStore ops o = true
      · rw [if_pos hs]
        rw [if_pos hs] at h
        refine ⟨s, ?_⟩
        rcases guardK_spec h with ⟨hw, h⟩ | ⟨hw, h⟩
        · obtain ⟨s1, h1, h2⟩ := stepK_spec hin hw h
          exact ⟨s1, rfl, h1, h2⟩
        · split at h
          · exact h.elim
          · exact ⟨_, rfl, by unfold step; rw [if_pos hin, hw], h⟩
      · rw [if_neg hs]
        rw [if_neg hs] at h
        simp only [runD]
        rcases guardK_spec h with ⟨hw, h⟩ | ⟨hw, h⟩
        · obtain ⟨s1, h1, h2⟩ := stepDK_spec hin hw h
          exact ⟨s1, by rw [h1]; rfl, h2⟩
        · split at h
          · exact h.elim
          · rename_i hloc
            have : stepD P (callL P ext) n E ops o s = some (s.put o.dst (.tuple []) []) := by unfold stepD; rw [if_pos hin, hw]; simp only [if_neg hloc]
            exact ⟨_, by rw [this]; rfl, h⟩
    · exact h.elim
  | o :: o2 :: l, s, K, h => by
    simp only [opsDK] at h
    have hnext : ∀ s1, stepD P (callL P ext) n E ops o s = some s1 → opsDK P ext n E ops (o2 :: l) s1 K → match (o :: o2 :: l).getLast? with
        | none => K s
        | some o' => if isStore ops o' = true then ∃ s1 s', runD P (callL P ext) n E ops (o :: o2 :: l).dropLast s = some s1 ∧ step P (callL P ext) n E ops o' s1 = some s' ∧ K s' else ∃ s', runD P (callL P ext) n E ops (o :: o2 :: l) s = some s' ∧ K s' := by
      intro s1 hst hk
      have ih := opsDK_spec hk
      rw [List.getLast?_cons_cons]
      cases hl : (o2 :: l).getLast? with
      | none => simp at hl
      | some o' =>
        rw [hl] at ih
        simp only at ih ⊢
        split at ih
        · rename_i hs
          rw [if_pos hs]
          obtain ⟨s2, s3, h1, h2, h3⟩ := ih
          refine ⟨s2, s3, ?_, h2, h3⟩
          rw [List.dropLast_cons_cons]
          simp only [runD]
          rw [hst]
          exact h1
        · rename_i hs
          rw [if_neg hs]
          obtain ⟨s2, h1, h2⟩ := ih
          refine ⟨s2, ?_, h2⟩
          simp only [runD] at h1 ⊢
          rw [hst]
          exact h1
    split at h
    · rename_i hin
      rcases guardK_spec h with ⟨hw, h⟩ | ⟨hw, h⟩
      · obtain ⟨s1, h1, h2⟩ := stepDK_spec hin hw h
        exact hnext s1 h1 h2
      · split at h
        · exact h.elim
        · rename_i hloc
          exact hnext _ (by unfold stepD; rw [if_pos hin, hw]; simp only [if_neg hloc]) h
    · exact h.elim
theorem cdD_spec {d : D} {A B : Prop} (h : cdD d A B) : (d = .bool true ∧ A) ∨ (d = .bool false ∧ B) := by
  unfold cdD at h
  split at h
  · rename_i b
    cases b with
    | true => exact .inl ⟨rfl, h.1 rfl⟩
    | false => exact .inr ⟨rfl, h.2 rfl⟩
  · exact h.elim
theorem Awp.of : ∀ {c : Code} {s : St} {Q : X → St → Prop}, awp P ext n res c s Q → Awp P ext n res c s Q := by
  intro c
  induction c with
  | skip => intro s Q h; exact awp_skip h
  | region id ops draw =>
    intro s Q h
    cases draw with
    | false =>
      obtain ⟨s', h1, h2⟩ := opsK_spec h
      exact awp_region h1 h2
    | true =>
      obtain ⟨hsh, h⟩ := h
      have h' := opsDK_spec h
      unfold drawShape at hsh
      cases hl : ops.toList.getLast? with
      | none =>
        rw [hl] at h'
        exact awp_draw (s' := s.frz (Gs.frzAt ops.toList)) (by unfold runDraw; rw [hl]) h'
      | some o =>
        rw [hl] at h' hsh
        simp only at h' hsh
        by_cases hs : isStore ops.toList o = true
        · rw [if_pos hs] at h' hsh
          obtain ⟨s1, s', h1, h2, h3⟩ := h'
          refine awp_draw (s' := s') ?_ h3
          unfold runDraw
          rw [hl]
          simp only
          rw [if_pos hs, if_pos hsh, ← List.dropLast_eq_take, h1]
          exact h2
        · rw [if_neg hs] at h' hsh
          obtain ⟨s', h1, h2⟩ := h'
          refine awp_draw (s' := s') ?_ h2
          unfold runDraw
          rw [hl]
          simp only
          rw [if_neg hs, if_pos hsh]
          exact h1
  | seq a b iha ihb =>
    intro s Q h
    refine awp_seq ((iha h).mono fun x s h => ?_)
    cases x with
    | normal => exact ihb h
    | exit id => exact h
    | ret => exact h
  | cond o a b iha ihb =>
    intro s Q h
    rcases cdD_spec h with ⟨h1, h2⟩ | ⟨h1, h2⟩
    · exact awp_true h1 (iha h2)
    · exact awp_false h1 (ihb h2)
  | block id b ih => intro s Q h; exact awp_block (ih h)
  | loop b ih => intro s Q h; exact h
  | exit id => intro s Q h; exact awp_exit h
  | ret => intro s Q h; exact awp_ret h
  | _ => intro s Q h; exact h.elim
end
/-! ### What is still to be done, as a list; one question at a time -/
/-- A question's ways, kept from simp. -/
def Lk (_ : Prop) : Type := Nat
def lk (A : Prop) : Lk A := (0 : Nat)
inductive It where
  | code (c : Code)
  | blk (id : Nat)
  | ops (E : List Tmp) (all l : List Oper)
  | dops (E : List Tmp) (all l : List Oper)
def goX (P : Program) (ext : Call) (n : Nat) (res : List Tmp) (Q : X → St → Prop) : List It → X → St → Prop
  | [], x, s => Q x s
  | _ :: _, .ret, s => Q .ret s
  | .blk i :: k, .exit id, s => if id = i then goX P ext n res Q k .normal s else goX P ext n res Q k (.exit id) s
  | _ :: k, .exit id, s => goX P ext n res Q k (.exit id) s
  | .code c :: k, .normal, s => awp P ext n res c s (goX P ext n res Q k)
  | .blk _ :: k, .normal, s => goX P ext n res Q k .normal s
  | .ops E all l :: k, .normal, s => opsK P ext n E all l s (goX P ext n res Q k .normal)
  | .dops E all l :: k, .normal, s => opsDK P ext n E all l s (goX P ext n res Q k .normal)
def isPtr : List D → Bool
  | .ptr _ _ _ :: _ => true
  | _ => false
section
variable (P : Program) (ext : Call) (n : Nat) (res : List Tmp) (Q : X → St → Prop) (k : List It)
def okG (tk : Option (Tmp × Option Nat)) (dst : Option Tmp) (s : St) (r : Option (D × List Room)) : Prop := match r with | some (d, m) => goX P ext n res Q k .normal ((s.demote tk).put dst d m) | none => False
def okB (r : Option St) : Prop := match r with | some s => goX P ext n res Q k .normal s | none => False
def gw (b : Bool) (A B : Prop) (_ : Lk A) (_ : Lk B) : Prop := (b = true → A) ∧ (b = false → B)
def gwD (d : D) (want : Bool) (A B : Prop) (a : Lk A) (b : Lk B) : Prop := match d with | .bool t => gw (t == want) A B a b | .tuple [] => B | _ => False
def cwD (d : D) (A B : Prop) (a : Lk A) (b : Lk B) : Prop := match d with | .bool t => gw t A B a b | _ => False
def drW (t : Bool) (A : Prop) (_ : Lk A) (_ : t = t) : Prop := t = true ∧ A
def guardG (all : List Oper) (g : Option (Nat × Bool)) (s : St) (A B : Prop) (a : Lk A) (b : Lk B) : Prop :=
  match g with
  | none => A
  | some (j, want) => match (all[j]?).bind (·.dst) with
    | none => False
    | some t => gwD (s.slot t) want A B a b
/-- What a call handed back, then what is to be done. -/
def okR (dst : Option Tmp) (s : St) (r : Option (D × List Room × List Bx)) : Prop := match r with
  | some (d, m, []) => goX P ext n res Q k .normal (s.put dst d m)
  | some (.ptr _ _ _, _, [b]) => (match dst with
    | some t => if t < 1000000 then goX P ext n res Q k .normal ({ s.setBox t (some ⟨s.ctr, b.cells⟩) with ctr := s.ctr + 1 }.put (some t) (.ptr t s.ctr 0) []) else False
    | none => False)
  | _ => False
/-- A call of what a slot holds. -/
def callG (dst : Option Tmp) (args : List D) (s : St) (f : D) : Prop := match f with
  | .func (.func g) first captured => if (first ++ args ++ captured).all pureB = true then okR P ext n res Q k dst s (callL P ext g (first ++ args ++ captured) []) else False
  | _ => False
/-- One operation, then what is to be done. -/
def opG (E : List Tmp) (o : Oper) (s : St) : Prop :=
  match o.op with
  | .alloc _ | .box _ _ | .store _ _ _ => okB P ext n res Q k (stepBox P o s)
  | .call c => if isPtr (c.args.toList.map (get s.slot)) = true then okB P ext n res Q k (stepPtr (callL P ext) o s) else (match c.callee with
    | .value f => callG P ext n res Q k o.dst (c.args.toList.map (get s.slot)) s (get s.slot f)
    | _ => okG P ext n res Q k (stake E o) o.dst s (sval P (callL P ext) s.slot s.box (s.taken (stake E o)) o))
  | _ => okG P ext n res Q k (stake E o) o.dst s (sval P (callL P ext) s.slot s.box (s.taken (stake E o)) o)
def opD (E : List Tmp) (all : List Oper) (o : Oper) (s : St) : Prop :=
  match o.op with
  | .alloc _ => if allocKey all = o.dst then okB P ext n res Q k (stepBox P o s) else False
  | .box _ _ => False
  | .store _ (.tmp t) _ => if allocKey all = some t ∧ o.dst = none ∧ ptrAt s.slot t = true then okB P ext n res Q k (stepBox P o s) else False
  | .store _ _ _ => False
  | .load _ _ => if loadsOwn (allocKey all) s.slot o = true then False else okG P ext n res Q k (stake E o) o.dst s (sval P (callL P ext) s.slot s.box (s.taken (stake E o)) o)
  | .call c => if isPtr (c.args.toList.map (get s.slot)) = true then False else okG P ext n res Q k (stake E o) o.dst s (sval P (callL P ext) s.slot s.box (s.taken (stake E o)) o)
  | _ => okG P ext n res Q k (stake E o) o.dst s (sval P (callL P ext) s.slot s.box (s.taken (stake E o)) o)
/-- A loop that waits for its rule. -/
def loopAt (b : Code) (s : St) : Prop := Awp P ext n res (.loop b) s (goX P ext n res Q k)
end
section
variable {P : Program} {ext : Call} {n : Nat} {res : List Tmp} {Q : X → St → Prop} {k : List It} {s : St} {E : List Tmp} {all l : List Oper} {o : Oper}
theorem goX_ret (k : List It) : goX P ext n res Q k .ret s = Q .ret s := by
  cases k with
  | nil => rfl
  | cons it k => cases it <;> rfl
theorem goX_code (c : Code) : goX P ext n res Q (.code c :: k) .normal s = awp P ext n res c s (goX P ext n res Q k) := id rfl
theorem go_nil (x : X) : goX P ext n res Q [] x s = Q x s := id (by cases x <;> rfl)
theorem go_seq (a b : Code) : goX P ext n res Q (.code (.seq a b) :: k) .normal s = goX P ext n res Q (.code a :: .code b :: k) .normal s := by
  show awp P ext n res a s (thenQ (fun s => awp P ext n res b s (goX P ext n res Q k)) (goX P ext n res Q k)) = awp P ext n res a s (goX P ext n res Q (.code b :: k))
  congr 1
  funext x s
  cases x with
  | normal => rfl
  | exit id => rfl
  | ret => rw [goX_ret]; exact goX_ret k
theorem go_cond (c : Operand) (a b : Code) : goX P ext n res Q (.code (.cond c a b) :: k) .normal s = cwD (get s.slot c) (goX P ext n res Q (.code a :: k) .normal s) (goX P ext n res Q (.code b :: k) .normal s) (lk _) (lk _) := id rfl
theorem go_block (id : Nat) (b : Code) : goX P ext n res Q (.code (.block id b) :: k) .normal s = goX P ext n res Q (.code b :: .blk id :: k) .normal s := by
  show awp P ext n res b s (blockQ id (goX P ext n res Q k)) = awp P ext n res b s (goX P ext n res Q (.blk id :: k))
  congr 1
  funext x s
  cases x with
  | normal => rfl
  | exit i => rfl
  | ret => rw [goX_ret]; exact goX_ret k
theorem go_blk (i : Nat) : goX P ext n res Q (.blk i :: k) .normal s = goX P ext n res Q k .normal s := id rfl
theorem go_skip : goX P ext n res Q (.code .skip :: k) .normal s = goX P ext n res Q k .normal s := id rfl
theorem go_exit (id : Nat) : goX P ext n res Q (.code (.exit id) :: k) .normal s = goX P ext n res Q k (.exit id) s := _root_.id rfl
theorem go_retc : goX P ext n res Q (.code .ret :: k) .normal s = Q .ret s := by
  exact goX_ret k
theorem go_xcode (c : Code) (id : Nat) : goX P ext n res Q (.code c :: k) (.exit id) s = goX P ext n res Q k (.exit id) s := _root_.id rfl
theorem go_xblk (i id : Nat) : goX P ext n res Q (.blk i :: k) (.exit id) s = if id = i then goX P ext n res Q k .normal s else goX P ext n res Q k (.exit id) s := _root_.id rfl
theorem go_loop (b : Code) : goX P ext n res Q (.code (.loop b) :: k) .normal s = loopAt P ext n res Q k b s := id rfl
theorem go_region (id : Nat) (ops : Array Oper) : goX P ext n res Q (.code (.region id ops false) :: k) .normal s = goX P ext n res Q (.ops (eaters res ops.toList) ops.toList ops.toList :: k) .normal (s.frz (Gs.frzAt ops.toList)) := _root_.id rfl
theorem go_draw (id : Nat) (ops : Array Oper) : goX P ext n res Q (.code (.region id ops true) :: k) .normal s = drW (drawShape (eaters res ops.toList) ops.toList) (goX P ext n res Q (.dops (eaters res ops.toList) ops.toList ops.toList :: k) .normal (s.frz (Gs.frzAt ops.toList))) (lk _) rfl := _root_.id rfl
theorem go_ops_nil : goX P ext n res Q (.ops E all [] :: k) .normal s = goX P ext n res Q k .normal s := id rfl
theorem go_dops_nil : goX P ext n res Q (.dops E all [] :: k) .normal s = goX P ext n res Q k .normal s := id rfl
theorem okS_stepC : okS (stepC P (callL P ext) E o s) (goX P ext n res Q k .normal) = (match o.op with
    | .call c => (match c.callee with
      | .value f => callG P ext n res Q k o.dst (c.args.toList.map (get s.slot)) s (get s.slot f)
      | _ => okG P ext n res Q k (stake E o) o.dst s (sval P (callL P ext) s.slot s.box (s.taken (stake E o)) o))
    | _ => okS (stepC P (callL P ext) E o s) (goX P ext n res Q k .normal)) := by
  obtain ⟨dst, op, ty, pos, after, guard⟩ := o
  cases op with
  | call cc =>
    obtain ⟨callee, args, ats⟩ := cc
    have hB : (∀ f, callee ≠ .value f) → okS (stepC P (callL P ext) E ⟨dst, .call ⟨callee, args, ats⟩, ty, pos, after, guard⟩ s) (goX P ext n res Q k .normal) = okG P ext n res Q k (stake E ⟨dst, .call ⟨callee, args, ats⟩, ty, pos, after, guard⟩) dst s (sval P (callL P ext) s.slot s.box (s.taken (stake E ⟨dst, .call ⟨callee, args, ats⟩, ty, pos, after, guard⟩)) ⟨dst, .call ⟨callee, args, ats⟩, ty, pos, after, guard⟩) := by
      intro hne
      have hN : stepNew (callL P ext) ⟨dst, .call ⟨callee, args, ats⟩, ty, pos, after, guard⟩ s = none := by
        cases callee with
        | value f => exact absurd rfl (hne f)
        | _ => rfl
      unfold stepC stepS
      rw [hN]
      cases sval P (callL P ext) s.slot s.box (s.taken (stake E ⟨dst, .call ⟨callee, args, ats⟩, ty, pos, after, guard⟩)) ⟨dst, .call ⟨callee, args, ats⟩, ty, pos, after, guard⟩ with
      | none => rfl
      | some x => rfl
    cases callee with
    | value f =>
      have hst : stake E ⟨dst, .call ⟨.value f, args, ats⟩, ty, pos, after, guard⟩ = none := rfl
      show okS ((stepS P (callL P ext) E ⟨dst, .call ⟨.value f, args, ats⟩, ty, pos, after, guard⟩ s).orElse fun _ => stepNew (callL P ext) ⟨dst, .call ⟨.value f, args, ats⟩, ty, pos, after, guard⟩ s) (goX P ext n res Q k .normal) = callG P ext n res Q k dst (args.toList.map (get s.slot)) s (get s.slot f)
      have hno : (∀ g first captured, get s.slot f = .func (.func g) first captured → ¬ (first ++ args.toList.map (get s.slot) ++ captured).all pureB = true) → sval P (callL P ext) s.slot s.box (s.taken (stake E ⟨dst, .call ⟨.value f, args, ats⟩, ty, pos, after, guard⟩)) ⟨dst, .call ⟨.value f, args, ats⟩, ty, pos, after, guard⟩ = none ∧ stepNew (callL P ext) ⟨dst, .call ⟨.value f, args, ats⟩, ty, pos, after, guard⟩ s = none ∧ callG P ext n res Q k dst (args.toList.map (get s.slot)) s (get s.slot f) = False := by
        intro h
        refine ⟨?_, ?_, ?_⟩
        · simp only [sval]
          split
          · rename_i g first captured hf
            rw [if_neg (h g first captured hf)]
          · rfl
        · simp only [stepNew]
          split
          · rename_i g first captured hf
            rw [if_neg (h g first captured hf)]
          · rfl
        · unfold callG
          split
          · rename_i g first captured hf
            rw [if_neg (h g first captured hf)]
          · rfl
      by_cases hex : ∃ g first captured, get s.slot f = .func (.func g) first captured ∧ (first ++ args.toList.map (get s.slot) ++ captured).all pureB = true
      · obtain ⟨g, first, captured, hf, hp⟩ := hex
        have h1 : sval P (callL P ext) s.slot s.box (s.taken (stake E ⟨dst, .call ⟨.value f, args, ats⟩, ty, pos, after, guard⟩)) ⟨dst, .call ⟨.value f, args, ats⟩, ty, pos, after, guard⟩ = plainR (callL P ext g (first ++ args.toList.map (get s.slot) ++ captured) []) := by
          simp only [sval, hf, if_pos hp]
        have h2 : stepNew (callL P ext) ⟨dst, .call ⟨.value f, args, ats⟩, ty, pos, after, guard⟩ s = newR ⟨dst, .call ⟨.value f, args, ats⟩, ty, pos, after, guard⟩ s (callL P ext g (first ++ args.toList.map (get s.slot) ++ captured) []) := by
          simp only [stepNew, hf, if_pos hp]
        unfold stepS
        rw [h1, h2, hst, hf]
        unfold callG
        simp only [if_pos hp]
        generalize callL P ext g (first ++ args.toList.map (get s.slot) ++ captured) [] = r
        match r with
        | none => rfl
        | some (d, m, []) => rfl
        | some (d, m, b :: b2 :: l) => cases d <;> rfl
        | some (d, m, [b]) =>
          cases d with
          | ptr k' g' o' =>
            simp only [plainR, newR, okR, Option.orElse]
            cases dst with
            | none => rfl
            | some t =>
              simp only
              split <;> rfl
          | _ => rfl
      · obtain ⟨h1, h2, h3⟩ := hno (fun g first captured hf hp => hex ⟨g, first, captured, hf, hp⟩)
        unfold stepS
        rw [h1, h2, h3]
        rfl
    | builtin b => exact hB (fun f => by simp)
    | invoke r m => exact hB (fun f => by simp)
  | _ => rfl
theorem opG_eq : stepK P ext E all o s (goX P ext n res Q k .normal) = opG P ext n res Q k E o s := by
  unfold stepK opG
  have hC := okS_stepC (P := P) (ext := ext) (n := n) (res := res) (Q := Q) (k := k) (s := s) (E := E) (o := o)
  cases hop : o.op with
  | call c =>
    simp only [hop] at hC ⊢
    rw [hC]
    generalize List.map (get s.slot) c.args.toList = l
    cases l with
    | nil => rfl
    | cons x t => cases x <;> rfl
  | _ => rfl
theorem opD_eq : stepDK P ext E all o s (goX P ext n res Q k .normal) = opD P ext n res Q k E all o s := by
  unfold stepDK opD
  cases o.op with
  | call c =>
    simp only
    generalize List.map (get s.slot) c.args.toList = l
    cases l with
    | nil => rfl
    | cons x t => cases x <;> rfl
  | store _ a _ => cases a <;> rfl
  | _ => rfl
theorem guardG_eq {A B : Prop} : guardK n all o s A B = guardG all o.guard s A B (lk A) (lk B) := by
  unfold guardK guardG
  cases o.guard with
  | none => rfl
  | some g => rfl
theorem go_ops : goX P ext n res Q (.ops E all (o :: l) :: k) .normal s = if Gs.rowAt o = true then okB P ext n res Q (.ops E all l :: k) (stepRow P n o s) else if inB n o = true then guardG all o.guard s (opG P ext n res Q (.ops E all l :: k) E o s) (goX P ext n res Q (.ops E all l :: k) .normal (s.put o.dst (.tuple []) [])) (lk _) (lk _) else False := by
  rw [← guardG_eq, ← opG_eq (all := all)]
  rfl
theorem go_dops1 : goX P ext n res Q (.dops E all [o] :: k) .normal s = if inB n o = true then guardG all o.guard s (if isStore all o = true then opG P ext n res Q k E o s else opD P ext n res Q k E all o s) (if isLocal (allocKey all) o = true then False else goX P ext n res Q k .normal (s.put o.dst (.tuple []) [])) (lk _) (lk _) else False := by
  rw [← guardG_eq, ← opG_eq (all := all), ← opD_eq (all := all)]
  rfl
theorem go_dops (o2 : Oper) : goX P ext n res Q (.dops E all (o :: o2 :: l) :: k) .normal s = if inB n o = true then guardG all o.guard s (opD P ext n res Q (.dops E all (o2 :: l) :: k) E all o s) (if isLocal (allocKey all) o = true then False else goX P ext n res Q (.dops E all (o2 :: l) :: k) .normal (s.put o.dst (.tuple []) [])) (lk _) (lk _) else False := by
  rw [← guardG_eq, ← opD_eq (all := all)]
  rfl
theorem okG_some (tk : Option (Tmp × Option Nat)) (dst : Option Tmp) (d : D) (m : List Room) : okG P ext n res Q k tk dst s (some (d, m)) = goX P ext n res Q k .normal ((s.demote tk).put dst d m) := id rfl
theorem okB_some (s' : St) : okB P ext n res Q k (some s') = goX P ext n res Q k .normal s' := id rfl
theorem gwD_bool (t want : Bool) (A B : Prop) (a : Lk A) (b : Lk B) : gwD (.bool t) want A B a b = gw (t == want) A B a b := id rfl
theorem gwD_undef (want : Bool) (A B : Prop) (a : Lk A) (b : Lk B) : gwD (.tuple []) want A B a b = B := id rfl
theorem cwD_bool (t : Bool) (A B : Prop) (a : Lk A) (b : Lk B) : cwD (.bool t) A B a b = gw t A B a b := id rfl
theorem gw_true (A B : Prop) (a : Lk A) (b : Lk B) : gw true A B a b = A := by simp [gw]
theorem gw_false (A B : Prop) (a : Lk A) (b : Lk B) : gw false A B a b = B := by simp [gw]
theorem gw_intro {t : Bool} {A B : Prop} {a : Lk A} {b : Lk B} (h : t = true → A) (h' : t = false → B) : gw t A B a b := ⟨h, h'⟩
theorem drW_intro {t : Bool} {A : Prop} {a : Lk A} {e : t = t} (h : t = true) (h' : A) : drW t A a e := ⟨h, h'⟩
theorem guardG_none (A B : Prop) (a : Lk A) (b : Lk B) : guardG all none s A B a b = A := id rfl
theorem guardG_some (j : Nat) (want : Bool) (t : Tmp) (A B : Prop) (a : Lk A) (b : Lk B) (h : (all[j]?).bind (·.dst) = some t) : guardG all (some (j, want)) s A B a b = gwD (s.slot t) want A B a b := by
  simp only [guardG, h]
/-- A loop, by what holds at its head and what a round lowers. -/
theorem loopK {b : Code} (I : St → Prop) (μ : St → Nat) (h0 : I s)
    (round : ∀ (s : St) (K : X → St → Prop), I s → (∀ s', I s' → μ s' < μ s → K .normal s') → (∀ id s', goX P ext n res Q k (.exit id) s' → K (.exit id) s') → (∀ s', Q .ret s' → K .ret s') → goX P ext n res K [.code b] .normal s) :
    loopAt P ext n res Q k b s := by
  refine awp_loop I μ h0 fun s hI => .of ?_
  have := round s (thenQ (fun s' => I s' ∧ μ s' < μ s) (goX P ext n res Q k)) hI (fun s' h1 h2 => ⟨h1, h2⟩) (fun id s' h => h) (fun s' h => by
    show goX P ext n res Q k .ret s'
    rw [goX_ret]; exact h)
  have e : goX P ext n res (thenQ (fun s' => I s' ∧ μ s' < μ s) (goX P ext n res Q k)) [.code b] .normal s = awp P ext n res b s (thenQ (fun s' => I s' ∧ μ s' < μ s) (goX P ext n res Q k)) := by
    rw [goX_code]
    congr 1
  rw [← e]
  exact this
/-- The end of a body: what it hands back. -/
def endV : List (D × Room) → D × List Room
  | [(d, r)] => (d, [r])
  | l => (.tuple (l.map (·.1)), l.map (·.2))
def newV (s : St) : List ResultVar → Option Bx
  | [.tmp t] => (match s.slot t with
    | .ptr k g 0 => if k < 1000000 then (match s.box k with | some bx => if bx.gen = g then some ⟨0, bx.cells⟩ else none | none => none) else none
    | _ => none)
  | _ => none
def endN (m : Nat) (R : D × List Room × List Bx) (s : St) : Option Bx → Prop
  | some b => (.ptr nid 0 0, [], ((List.range m).map fun i => (s.box (pid i)).getD default) ++ [b]) = R
  | none => False
def endR (m : Nat) (R : D × List Room × List Bx) (s : St) (rs : List ResultVar) : Option (List (D × Room)) → Prop
  | some l => endV l = (R.1, R.2.1) ∧ ((List.range m).map fun i => (s.box (pid i)).getD default) = R.2.2
  | none => endN m R s (newV s rs)
def endQ (P : Program) (rs : List ResultVar) (m : Nat) (R : D × List Room × List Bx) : X → St → Prop
  | .exit _, _ => False
  | _, s => endR m R s rs (rvars P s rs)
theorem callK {f : FuncId} {fn : Func} {c : Code} {args : List D} {pbs : List Bx} {R : D × List Room × List Bx} {m : Nat} {res : List Tmp} {rs : List ResultVar} (hx : ext f args pbs = none) (hf : P.funcs[f]? = some fn) (hb : fn.body = some c)
    (hm : max args.length fn.ntmps = m) (hres : resTmps fn = res) (hrs : fn.results.toList = rs) (hn : noTwice res = true) (h : goX P ext m res (endQ P rs pbs.length R) [.code c] .normal (entry args pbs)) : callL P ext f args pbs = some R := by
  subst hm hres hrs
  rw [goX_code] at h
  refine callL_of hx hf hb ((Awp.of h).mono fun x s h => ?_)
  rw [go_nil] at h
  have key : endR pbs.length R s fn.results.toList (rvars P s fn.results.toList) → (match finish P fn s with
    | some (d, r) => some (d, r, (List.range pbs.length).map fun i => (s.box (pid i)).getD default)
    | none => (finishNew fn s).map fun b => (.ptr nid 0 0, [], ((List.range pbs.length).map fun i => (s.box (pid i)).getD default) ++ [b])) = some R := by
    intro h
    unfold finish
    rw [if_neg (by rw [hn]; decide)]
    cases hr : rvars P s fn.results.toList with
    | none =>
      rw [hr] at h
      have e : finishNew fn s = newV s fn.results.toList := rfl
      simp only [e]
      cases hv : newV s fn.results.toList with
      | none => simp only [endR, hv, endN] at h
      | some b =>
        simp only [endR, hv, endN] at h
        rw [← h]
        rfl
    | some l =>
      rw [hr] at h
      obtain ⟨h1, h2⟩ := h
      rw [h2]
      obtain ⟨R1, R2, R3⟩ := R
      simp only at h1 ⊢
      match l, h1 with
      | [], h1 => simp [endV] at h1; simp [h1]
      | [(d, r)], h1 => simp [endV] at h1; simp [h1]
      | x :: y :: t, h1 => simp [endV] at h1; simp [h1]
  cases x with
  | exit i => exact h.elim
  | normal => exact key h
  | ret => exact key h
end

section
variable (s : St)
theorem put_slot (k : Nat) (d : D) (r : List Room) (j : Nat) : (s.put (some k) d r).slot j = if j = k then d else s.slot j := rfl
theorem put_room (k : Nat) (d : D) (r : List Room) (j : Nat) : (s.put (some k) d r).room j = if j = k then r else s.room j := rfl
theorem put_box (k : Option Tmp) (d : D) (r : List Room) : (s.put k d r).box = s.box := by cases k <;> rfl
theorem put_ctr (k : Option Tmp) (d : D) (r : List Room) : (s.put k d r).ctr = s.ctr := by cases k <;> rfl
theorem put_none (d : D) (r : List Room) : s.put none d r = s := rfl
theorem dem_none : s.demote none = s := rfl
theorem dem_slot (tk : Option (Tmp × Option Nat)) : (s.demote tk).slot = s.slot := by unfold St.demote; split <;> rfl
theorem dem_box (tk : Option (Tmp × Option Nat)) : (s.demote tk).box = s.box := by unfold St.demote; split <;> rfl
theorem dem_ctr (tk : Option (Tmp × Option Nat)) : (s.demote tk).ctr = s.ctr := by unfold St.demote; split <;> rfl
theorem dem_room (k : Tmp) (j : Nat) : (s.demote (some (k, none))).room j = if j = k then [] else s.room j := rfl
theorem dem_room1 (k : Tmp) (i j : Nat) : (s.demote (some (k, some i))).room j = if j = k then (s.room k).set i .no else s.room j := rfl
theorem setBox_slot (k : Nat) (b : Option Bx) : (s.setBox k b).slot = s.slot := rfl
theorem setBox_room (k : Nat) (b : Option Bx) : (s.setBox k b).room = s.room := rfl
theorem setBox_ctr (k : Nat) (b : Option Bx) : (s.setBox k b).ctr = s.ctr := rfl
theorem setBox_box (k : Nat) (b : Option Bx) (j : Nat) : (s.setBox k b).box j = if j = k then b else s.box j := rfl
end
end Go.Av
