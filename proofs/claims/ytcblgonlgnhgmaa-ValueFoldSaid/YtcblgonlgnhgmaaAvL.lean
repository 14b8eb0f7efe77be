/- The evaluator without its fuel: rules for calls, regions, loops. Over any program. -/
import Derived.Test.YtcblgonlgnhgmaaAvX
set_option linter.unusedVariables false
set_option linter.unusedSimpArgs false
set_option linter.unusedSectionVars false
namespace Go.Av
open Go.RowKit
variable [Gs]

def Le (c c' : Call) : Prop := ∀ f a b r, c f a b = some r → c' f a b = some r
section
variable {P : Program} {ext c c' : Call} {n : Nat} {E : List Tmp}
theorem Le.refl (c : Call) : Le c c := fun _ _ _ _ h => h
theorem plainR_some {r : Option (D × List Room × List Bx)} {x : D × List Room} (h : plainR r = some x) : ∃ y, r = some y := by
  cases r with
  | none => cases h
  | some y => exact ⟨y, rfl⟩
theorem sval_mono (hc : Le c c') {slot : Nat → D} {box : Nat → Option Bx} {rm : List Room} {o : Oper} {x : D × List Room} (h : sval P c slot box rm o = some x) : sval P c' slot box rm o = some x := by
  obtain ⟨dst, op, ty, pos, after, guard⟩ := o
  cases op with
  | call cc =>
    obtain ⟨callee, args, ats⟩ := cc
    cases callee with
    | builtin b => cases b <;> exact h
    | invoke r m => exact h
    | value f =>
      simp only [sval] at h ⊢
      split at h
      · split at h
        · rename_i hp
          rw [if_pos hp]
          obtain ⟨y, hy⟩ := plainR_some h
          rw [hc _ _ _ _ hy, ← hy]
          exact h
        · cases h
      · cases h
  | _ => exact h
theorem stepS_mono (hc : Le c c') {o : Oper} {s s' : St} (h : stepS P c E o s = some s') : stepS P c' E o s = some s' := by
  unfold stepS at h ⊢
  split at h
  · rename_i d r hv
    rw [sval_mono hc hv]
    exact h
  · cases h
/-- The call of a step that hands on a variable: whom, with which variable, with what. -/
def ptrParts (o : Oper) (s : St) : Option (FuncId × Nat × Nat × List D × List D) :=
  match o.op with
  | .call cc => match cc.callee, cc.args.toList.map (get s.slot) with
    | .value (.func g), .ptr k gn off :: rest => match s.box k with
      | some bx => if bx.gen = gn ∧ rest.all pureB = true then some (g, k, gn, .ptr (pid 0) 0 off :: rest, bx.cells) else none
      | none => none
    | _, _ => none
  | _ => none
def ptrEnd (o : Oper) (s : St) (k gn : Nat) : Option (D × List Room × List Bx) → Option St
  | some (d, r, [b']) => some ((s.setBox k (some ⟨gn, b'.cells⟩)).put o.dst d r)
  | _ => none
theorem stepPtr_parts {o : Oper} {s : St} : stepPtr c o s = (ptrParts o s).bind fun x => ptrEnd o s x.2.1 x.2.2.1 (c x.1 x.2.2.2.1 [⟨0, x.2.2.2.2⟩]) := by
  obtain ⟨dst, op, ty, pos, after, guard⟩ := o
  cases op with
  | call cc =>
    obtain ⟨callee, args, ats⟩ := cc
    simp only [stepPtr, ptrParts]
    generalize List.map (get s.slot) args.toList = l
    cases callee with
    | value f =>
      cases f with
      | func g =>
        cases l with
        | nil => rfl
        | cons x t =>
          cases x with
          | ptr k gn off =>
            simp only
            cases s.box k with
            | none => rfl
            | some bx =>
              simp only
              split
              · simp only [Option.bind_some]
                unfold ptrEnd
                rfl
              · rfl
          | _ => rfl
      | _ => cases l <;> rfl
    | _ => cases l <;> rfl
  | _ => rfl
theorem ptrEnd_some {o : Oper} {s s' : St} {k gn : Nat} {r : Option (D × List Room × List Bx)} (h : ptrEnd o s k gn r = some s') : ∃ y, r = some y := by
  cases r with
  | none => simp [ptrEnd] at h
  | some y => exact ⟨y, rfl⟩
theorem stepPtr_mono (hc : Le c c') {o : Oper} {s s' : St} (h : stepPtr c o s = some s') : stepPtr c' o s = some s' := by
  rw [stepPtr_parts] at h ⊢
  obtain ⟨x, hx, h⟩ := Option.bind_eq_some_iff.1 h
  rw [hx]
  obtain ⟨y, hy⟩ := ptrEnd_some h
  simp only [Option.bind_some]
  rw [hc _ _ _ _ hy, ← hy]
  exact h
/-- A call that makes no variable, or else hands one back. -/
def stepC (P : Program) (c : Call) (E : List Tmp) (o : Oper) (s : St) : Option St := (stepS P c E o s).orElse fun _ => stepNew c o s
theorem newR_some {o : Oper} {s s' : St} {r : Option (D × List Room × List Bx)} (h : newR o s r = some s') : ∃ y, r = some y ∧ plainR (some y) = none := by
  match r, h with
  | some (.ptr k g i, m, [b]), h => exact ⟨_, rfl, rfl⟩
theorem stepNew_parts {o : Oper} {s s' : St} (h : stepNew c o s = some s') : ∃ g l y, c g l [] = some y ∧ ∀ c' : Call, c' g l [] = some y → stepNew c' o s = some s' ∧ stepS P c' E o s = none := by
  obtain ⟨dst, op, ty, pos, after, guard⟩ := o
  cases op with
  | call cc =>
    obtain ⟨callee, args, ats⟩ := cc
    cases callee with
    | value f =>
      simp only [stepNew] at h
      split at h
      · rename_i g first captured hf
        split at h
        · rename_i hp
          obtain ⟨y, hy, hpl⟩ := newR_some h
          refine ⟨g, _, y, hy, fun c' hc' => ⟨?_, ?_⟩⟩
          · simp only [stepNew, hf, if_pos hp, hc']
            rw [← hy]
            exact h
          · simp only [stepS, sval, hf, if_pos hp, hc', hpl]
        · cases h
      · cases h
    | _ => simp [stepNew] at h
  | _ => simp [stepNew] at h
theorem stepC_mono (hc : Le c c') {o : Oper} {s s' : St} (h : stepC P c E o s = some s') : stepC P c' E o s = some s' := by
  unfold stepC at h ⊢
  cases hs : stepS P c E o s with
  | some s1 =>
    rw [hs] at h
    rw [stepS_mono hc hs]
    exact h
  | none =>
    rw [hs] at h
    obtain ⟨g, l, y, hy, hall⟩ := stepNew_parts (P := P) (E := E) (c := c) h
    obtain ⟨h1, h2⟩ := hall c' (hc _ _ _ _ hy)
    rw [h2]
    exact h1
theorem step_mono (hc : Le c c') {ops : List Oper} {o : Oper} {s s' : St} (h : step P c n E ops o s = some s') : step P c' n E ops o s = some s' := by
  unfold step at h ⊢
  split at h
  · rename_i hin
    rw [if_pos hin]
    cases hw : dwanted ops s o with
    | none => rw [hw] at h; cases h
    | some b =>
      rw [hw] at h
      cases b with
      | false => exact h
      | true =>
        simp only at h ⊢
        cases hop : o.op with
        | call cc =>
          simp only [hop] at h ⊢
          generalize List.map (get s.slot) cc.args.toList = l at h ⊢
          cases l with
          | nil => exact stepC_mono hc h
          | cons x t => cases x <;> first | exact stepPtr_mono hc h | exact stepC_mono hc h
        | alloc _ => simpa [hop] using h
        | box _ _ => simpa [hop] using h
        | store _ _ _ => simpa [hop] using h
        | _ => simp only [hop] at h ⊢; exact stepS_mono hc h
  · cases h
theorem stepD_mono (hc : Le c c') {ops : List Oper} {o : Oper} {s s' : St} (h : stepD P c n E ops o s = some s') : stepD P c' n E ops o s = some s' := by
  unfold stepD at h ⊢
  split at h
  · rename_i hin
    rw [if_pos hin]
    cases hw : dwanted ops s o with
    | none => rw [hw] at h; cases h
    | some b =>
      rw [hw] at h
      cases b with
      | false => exact h
      | true =>
        simp only at h ⊢
        cases hop : o.op with
        | call cc =>
          simp only [hop] at h ⊢
          generalize List.map (get s.slot) cc.args.toList = l at h ⊢
          cases l with
          | nil => exact stepS_mono hc h
          | cons x t => cases x <;> first | exact stepS_mono hc h | exact h
        | alloc _ => simpa [hop] using h
        | box _ _ => simp [hop] at h
        | store _ a _ =>
          cases a with
          | tmp k => simpa [hop] using h
          | _ => simp [hop] at h
        | load _ _ =>
          simp only [hop] at h ⊢
          split at h
          · cases h
          · rename_i hl; rw [if_neg hl]; exact stepS_mono hc h
        | _ => simp only [hop] at h ⊢; exact stepS_mono hc h
  · cases h
theorem runOps_mono (hc : Le c c') {ops : List Oper} : ∀ {l : List Oper} {s s' : St}, runOps P c n E ops l s = some s' → runOps P c' n E ops l s = some s'
  | [], _, _, h => h
  | o :: l, s, s', h => by
    simp only [runOps] at h ⊢
    obtain ⟨s1, h1, h2⟩ := Option.bind_eq_some_iff.1 h
    split at h1
    · rename_i hr
      rw [if_pos hr, h1]
      exact runOps_mono hc h2
    · rename_i hr
      rw [if_neg hr, step_mono hc h1]
      exact runOps_mono hc h2
theorem runD_mono (hc : Le c c') {ops : List Oper} : ∀ {l : List Oper} {s s' : St}, runD P c n E ops l s = some s' → runD P c' n E ops l s = some s'
  | [], _, _, h => h
  | o :: l, s, s', h => by
    simp only [runD] at h ⊢
    obtain ⟨s1, h1, h2⟩ := Option.bind_eq_some_iff.1 h
    rw [stepD_mono hc h1]
    exact runD_mono hc h2
theorem runDraw_mono (hc : Le c c') {ops : List Oper} {s s' : St} (h : runDraw P c n E ops s = some s') : runDraw P c' n E ops s = some s' := by
  unfold runDraw at h ⊢
  split at h
  · exact h
  · split at h
    · rename_i hs
      rw [if_pos hs]
      split at h
      · rename_i hd
        rw [if_pos hd]
        obtain ⟨s1, h1, h2⟩ := Option.bind_eq_some_iff.1 h
        rw [runD_mono hc h1]
        exact step_mono hc h2
      · cases h
    · rename_i hs
      rw [if_neg hs]
      split at h
      · rename_i hd
        rw [if_pos hd]
        exact runD_mono hc h
      · cases h
theorem aloop_mono {f g : St → Option (X × St)} (hfg : ∀ s r, f s = some r → g s = some r) : ∀ {m m' : Nat} {s : St} {r : X × St}, m ≤ m' → aloop f m s = some r → aloop g m' s = some r
  | 0, _, _, _, _, h => by simp [aloop] at h
  | m + 1, 0, _, _, hm, _ => absurd hm (by omega)
  | m + 1, m' + 1, s, r, hm, h => by
    simp only [aloop] at h ⊢
    cases hf : f s with
    | none => rw [hf] at h; cases h
    | some y =>
      rw [hfg s y hf]
      rw [hf] at h
      obtain ⟨x, s1⟩ := y
      cases x with
      | normal => exact aloop_mono hfg (by omega) h
      | exit id => exact h
      | ret => exact h
theorem acode_mono (hc : Le c c') {N N' : Nat} (hN : N ≤ N') {res : List Tmp} : ∀ {k : Code} {s : St} {r : X × St}, acode P c N n res k s = some r → acode P c' N' n res k s = some r := by
  intro k
  induction k with
  | skip => intro s r h; exact h
  | region id ops draw =>
    intro s r h
    simp only [acode] at h ⊢
    obtain ⟨s1, h1, h2⟩ := Option.map_eq_some_iff.1 h
    cases draw with
    | true =>
      simp only [if_true] at h1 ⊢
      rw [runDraw_mono hc h1]
      exact congrArg some h2
    | false =>
      simp only [Bool.false_eq_true, if_false] at h1 ⊢
      rw [runOps_mono hc h1]
      exact congrArg some h2
  | seq a b iha ihb =>
    intro s r h
    simp only [acode] at h ⊢
    cases ha : acode P c N n res a s with
    | none => rw [ha] at h; cases h
    | some y =>
      rw [iha ha]
      rw [ha] at h
      obtain ⟨x, s1⟩ := y
      cases x with
      | normal => exact ihb h
      | exit id => exact h
      | ret => exact h
  | cond o a b iha ihb =>
    intro s r h
    simp only [acode] at h ⊢
    split at h
    · exact iha h
    · exact ihb h
    · cases h
  | block id b ih =>
    intro s r h
    simp only [acode] at h ⊢
    cases hb : acode P c N n res b s with
    | none => rw [hb] at h; cases h
    | some y =>
      rw [ih hb]
      rw [hb] at h
      exact h
  | loop b ih =>
    intro s r h
    simp only [acode] at h ⊢
    exact aloop_mono (fun s r h => ih h) hN h
  | exit id => intro s r h; exact h
  | ret => intro s r h; exact h
  | _ => intro s r h; simp [acode] at h
theorem aev_mono1 : ∀ N, Le (aev P ext N) (aev P ext (N + 1))
  | 0, _, _, _, _, h => by simp [aev] at h
  | N + 1, f, a, b, r, h => by
    unfold aev at h ⊢
    split at h
    · exact h
    split at h
    · cases h
    · rename_i fn hf
      split at h
      · cases h
      · rename_i k hk
        unfold leaving at h ⊢
        split at h
        · rename_i s hs
          rw [acode_mono (aev_mono1 N) (Nat.le_succ N) hs]
          exact h
        · rename_i s hs
          rw [acode_mono (aev_mono1 N) (Nat.le_succ N) hs]
          exact h
        · cases h
theorem aev_mono {N N' : Nat} (h : N ≤ N') : Le (aev P ext N) (aev P ext N') := by
  induction h with
  | refl => exact Le.refl _
  | step _ ih => exact fun f a b r h => aev_mono1 _ f a b r (ih f a b r h)
end

open Classical in
/-- A call, whatever the fuel. -/
noncomputable def callL (P : Program) (ext : Call) : Call := fun f args pbs => if h : ∃ r N, aev P ext N f args pbs = some r then some h.choose else none
section
variable {P : Program} {ext : Call} {n : Nat} {E : List Tmp} {res : List Tmp}
theorem aev_callL {N : Nat} {f : FuncId} {args : List D} {pbs : List Bx} {r : D × List Room × List Bx} (h : aev P ext N f args pbs = some r) : callL P ext f args pbs = some r := by
  have h0 : ∃ r N, aev P ext N f args pbs = some r := ⟨r, N, h⟩
  unfold callL
  rw [dif_pos h0]
  obtain ⟨N', h'⟩ := h0.choose_spec
  have h1 := aev_mono (Nat.le_max_left N N') _ _ _ _ h
  have h2 := aev_mono (Nat.le_max_right N N') _ _ _ _ h'
  rw [h1] at h2
  exact h2.symm
theorem callL_aev {f : FuncId} {args : List D} {pbs : List Bx} {r : D × List Room × List Bx} (h : callL P ext f args pbs = some r) : ∃ N, aev P ext N f args pbs = some r := by
  unfold callL at h
  split at h
  · rename_i h0
    injection h with h
    obtain ⟨N, hN⟩ := h0.choose_spec
    exact ⟨N, by rw [hN, h]⟩
  · cases h
/-- From some fuel on. -/
def Ev {α : Type} (f : Nat → Option α) (x : α) : Prop := ∃ N, ∀ N', N ≤ N' → f N' = some x
theorem Ev.const {α : Type} {f : Nat → Option α} {x : α} (h : ∀ N, f N = some x) : Ev f x := ⟨0, fun N _ => h N⟩
theorem Ev.bind {α β : Type} {f : Nat → Option α} {g : Nat → α → Option β} {x : α} {y : β} (hf : Ev f x) (hg : Ev (fun N => g N x) y) : Ev (fun N => (f N).bind (g N)) y := by
  obtain ⟨N1, h1⟩ := hf
  obtain ⟨N2, h2⟩ := hg
  exact ⟨max N1 N2, fun N hN => by simp only [h1 N (by omega), Option.bind_some]; exact h2 N (by omega)⟩
theorem callL_ev {f : FuncId} {args : List D} {pbs : List Bx} {r : D × List Room × List Bx} (h : callL P ext f args pbs = some r) : Ev (fun N => aev P ext N f args pbs) r := by
  obtain ⟨N, hN⟩ := callL_aev h
  exact ⟨N, fun N' h' => aev_mono h' _ _ _ _ hN⟩
theorem sval_ev {slot : Nat → D} {box : Nat → Option Bx} {rm : List Room} {o : Oper} {x : D × List Room} (h : sval P (callL P ext) slot box rm o = some x) : Ev (fun N => sval P (aev P ext N) slot box rm o) x := by
  obtain ⟨dst, op, ty, pos, after, guard⟩ := o
  cases op with
  | call cc =>
    obtain ⟨callee, args, ats⟩ := cc
    cases callee with
    | builtin b => cases b <;> exact .const fun _ => h
    | invoke r m => exact .const fun _ => h
    | value f =>
      simp only [sval] at h ⊢
      split at h
      · split at h
        · rename_i hp
          obtain ⟨y, hy⟩ := plainR_some h
          obtain ⟨N, hN⟩ := callL_ev hy
          exact ⟨N, fun N' h' => by have := hN N' h'; simp only at this; simp only [if_pos hp, this]; rw [← hy]; exact h⟩
        · cases h
      · cases h
  | _ => exact .const fun _ => h
theorem stepS_ev {o : Oper} {s s' : St} (h : stepS P (callL P ext) E o s = some s') : Ev (fun N => stepS P (aev P ext N) E o s) s' := by
  unfold stepS at h
  split at h
  · rename_i d r hv
    obtain ⟨N, hN⟩ := sval_ev hv
    exact ⟨N, fun N' h' => by have e := hN N' h'; simp only at e; show stepS _ _ _ _ _ = _; unfold stepS; rw [e]; exact h⟩
  · cases h
theorem stepC_ev {o : Oper} {s s' : St} (h : stepC P (callL P ext) E o s = some s') : Ev (fun N => stepC P (aev P ext N) E o s) s' := by
  unfold stepC at h
  cases hs : stepS P (callL P ext) E o s with
  | some s1 =>
    rw [hs] at h
    obtain ⟨N, hN⟩ := stepS_ev hs
    exact ⟨N, fun N' h' => by
      have e := hN N' h'
      simp only at e
      show stepC _ _ _ _ _ = _
      unfold stepC
      rw [e]
      exact h⟩
  | none =>
    rw [hs] at h
    obtain ⟨g, l, y, hy, hall⟩ := stepNew_parts (P := P) (E := E) (c := callL P ext) h
    obtain ⟨N, hN⟩ := callL_ev hy
    exact ⟨N, fun N' h' => by
      have e := hN N' h'
      simp only at e
      obtain ⟨h1, h2⟩ := hall (aev P ext N') e
      show stepC _ _ _ _ _ = _
      unfold stepC
      rw [h2]
      exact h1⟩
theorem stepPtr_ev {o : Oper} {s s' : St} (h : stepPtr (callL P ext) o s = some s') : Ev (fun N => stepPtr (aev P ext N) o s) s' := by
  rw [stepPtr_parts] at h
  obtain ⟨x, hx, h⟩ := Option.bind_eq_some_iff.1 h
  obtain ⟨y, hy⟩ := ptrEnd_some h
  obtain ⟨N, hN⟩ := callL_ev hy
  refine ⟨N, fun N' h' => ?_⟩
  show stepPtr (aev P ext N') o s = some s'
  rw [stepPtr_parts, hx]
  simp only [Option.bind_some]
  have := hN N' h'
  simp only at this
  rw [this, ← hy]
  exact h
theorem step_ev {ops : List Oper} {o : Oper} {s s' : St} (h : step P (callL P ext) n E ops o s = some s') : Ev (fun N => step P (aev P ext N) n E ops o s) s' := by
  unfold step at h ⊢
  split at h
  · rename_i hin
    simp only [if_pos hin]
    cases hw : dwanted ops s o with
    | none => rw [hw] at h; cases h
    | some b =>
      rw [hw] at h
      cases b with
      | false => exact .const fun _ => h
      | true =>
        simp only at h ⊢
        cases hop : o.op with
        | call cc =>
          simp only [hop] at h ⊢
          generalize List.map (get s.slot) cc.args.toList = l at h ⊢
          cases l with
          | nil => exact stepC_ev h
          | cons x t => cases x <;> first | exact stepPtr_ev h | exact stepC_ev h
        | alloc _ => exact .const fun _ => by simpa [hop] using h
        | box _ _ => exact .const fun _ => by simpa [hop] using h
        | store _ _ _ => exact .const fun _ => by simpa [hop] using h
        | _ => simp only [hop] at h ⊢; exact stepS_ev h
  · cases h
theorem stepD_ev {ops : List Oper} {o : Oper} {s s' : St} (h : stepD P (callL P ext) n E ops o s = some s') : Ev (fun N => stepD P (aev P ext N) n E ops o s) s' := by
  unfold stepD at h ⊢
  split at h
  · rename_i hin
    simp only [if_pos hin]
    cases hw : dwanted ops s o with
    | none => rw [hw] at h; cases h
    | some b =>
      rw [hw] at h
      cases b with
      | false => exact .const fun _ => h
      | true =>
        simp only at h ⊢
        cases hop : o.op with
        | call cc =>
          simp only [hop] at h ⊢
          generalize List.map (get s.slot) cc.args.toList = l at h ⊢
          cases l with
          | nil => exact stepS_ev h
          | cons x t => cases x <;> first | exact stepS_ev h | cases h
        | alloc _ => exact .const fun _ => by simpa [hop] using h
        | box _ _ => simp [hop] at h
        | store _ a _ =>
          cases a with
          | tmp k => exact .const fun _ => by simpa [hop] using h
          | _ => simp [hop] at h
        | load _ _ =>
          simp only [hop] at h ⊢
          split at h
          · cases h
          · rename_i hl; simp only [if_neg hl]; exact stepS_ev h
        | _ => simp only [hop] at h ⊢; exact stepS_ev h
  · cases h
theorem runOps_ev {ops : List Oper} : ∀ {l : List Oper} {s s' : St}, runOps P (callL P ext) n E ops l s = some s' → Ev (fun N => runOps P (aev P ext N) n E ops l s) s'
  | [], _, _, h => .const fun _ => h
  | o :: l, s, s', h => by
    simp only [runOps] at h ⊢
    obtain ⟨s1, h1, h2⟩ := Option.bind_eq_some_iff.1 h
    split at h1
    · rename_i hr
      simp only [if_pos hr]
      exact (Ev.const fun _ => h1).bind (runOps_ev h2)
    · rename_i hr
      simp only [if_neg hr]
      exact (step_ev h1).bind (runOps_ev h2)
theorem runD_ev {ops : List Oper} : ∀ {l : List Oper} {s s' : St}, runD P (callL P ext) n E ops l s = some s' → Ev (fun N => runD P (aev P ext N) n E ops l s) s'
  | [], _, _, h => .const fun _ => h
  | o :: l, s, s', h => by
    simp only [runD] at h ⊢
    obtain ⟨s1, h1, h2⟩ := Option.bind_eq_some_iff.1 h
    exact (stepD_ev h1).bind (runD_ev h2)
theorem runDraw_ev {ops : List Oper} {s s' : St} (h : runDraw P (callL P ext) n E ops s = some s') : Ev (fun N => runDraw P (aev P ext N) n E ops s) s' := by
  unfold runDraw at h ⊢
  split at h
  · exact .const fun _ => h
  · split at h
    · rename_i hs
      simp only [if_pos hs]
      split at h
      · rename_i hd
        simp only [if_pos hd]
        obtain ⟨s1, h1, h2⟩ := Option.bind_eq_some_iff.1 h
        exact (runD_ev h1).bind (step_ev h2)
      · cases h
    · rename_i hs
      simp only [if_neg hs]
      split at h
      · rename_i hd
        simp only [if_pos hd]
        exact runD_ev h
      · cases h

/-- Code comes to this, from some fuel on; and so. -/
def Awp (P : Program) (ext : Call) (n : Nat) (res : List Tmp) (c : Code) (s : St) (Q : X → St → Prop) : Prop := ∃ x s', Ev (fun N => acode P (aev P ext N) N n res c s) (x, s') ∧ Q x s'
variable {s : St} {Q : X → St → Prop}
theorem Awp.mono {c : Code} {Q' : X → St → Prop} (h : Awp P ext n res c s Q) (hq : ∀ x s, Q x s → Q' x s) : Awp P ext n res c s Q' := by
  obtain ⟨x, s', h1, h2⟩ := h
  exact ⟨x, s', h1, hq _ _ h2⟩
theorem awp_skip (h : Q .normal s) : Awp P ext n res .skip s Q := ⟨.normal, s, .const fun _ => rfl, h⟩
theorem awp_exit {id : Nat} (h : Q (.exit id) s) : Awp P ext n res (.exit id) s Q := ⟨.exit id, s, .const fun _ => rfl, h⟩
theorem awp_ret (h : Q .ret s) : Awp P ext n res .ret s Q := ⟨.ret, s, .const fun _ => rfl, h⟩
theorem awp_region {id : Nat} {ops : Array Oper} {s' : St} (h : runOps P (callL P ext) n (eaters res ops.toList) ops.toList ops.toList (s.frz (Gs.frzAt ops.toList)) = some s') (hq : Q .normal s') : Awp P ext n res (.region id ops false) s Q := by
  refine ⟨.normal, s', ?_, hq⟩
  obtain ⟨N, hN⟩ := runOps_ev h
  exact ⟨N, fun N' h' => by have e := hN N' h'; simp only at e; simp only [acode, Bool.false_eq_true, if_false, e]; rfl⟩
theorem awp_draw {id : Nat} {ops : Array Oper} {s' : St} (h : runDraw P (callL P ext) n (eaters res ops.toList) ops.toList (s.frz (Gs.frzAt ops.toList)) = some s') (hq : Q .normal s') : Awp P ext n res (.region id ops true) s Q := by
  refine ⟨.normal, s', ?_, hq⟩
  obtain ⟨N, hN⟩ := runDraw_ev h
  exact ⟨N, fun N' h' => by have e := hN N' h'; simp only at e; simp only [acode, if_true, e]; rfl⟩
def thenQ (K : St → Prop) (Q : X → St → Prop) : X → St → Prop
  | .normal, s => K s
  | x, s => Q x s
theorem awp_seq {a b : Code} (h : Awp P ext n res a s (thenQ (fun s => Awp P ext n res b s Q) Q)) : Awp P ext n res (.seq a b) s Q := by
  obtain ⟨x, s1, ⟨N1, h1⟩, h2⟩ := h
  cases x with
  | normal =>
    obtain ⟨y, s2, ⟨N2, h3⟩, h4⟩ := h2
    refine ⟨y, s2, ⟨max N1 N2, fun N hN => ?_⟩, h4⟩
    simp only [acode]
    have e := h1 N (by omega); simp only at e; rw [e]
    exact h3 N (by omega)
  | exit id => exact ⟨_, s1, ⟨N1, fun N hN => by simp only [acode]; have e := h1 N hN; simp only at e; rw [e]⟩, h2⟩
  | ret => exact ⟨_, s1, ⟨N1, fun N hN => by simp only [acode]; have e := h1 N hN; simp only at e; rw [e]⟩, h2⟩
theorem awp_true {o : Operand} {a b : Code} (hc : get s.slot o = .bool true) (h : Awp P ext n res a s Q) : Awp P ext n res (.cond o a b) s Q := by
  obtain ⟨x, s1, ⟨N1, h1⟩, h2⟩ := h
  exact ⟨x, s1, ⟨N1, fun N hN => by simp only [acode, hc]; exact h1 N hN⟩, h2⟩
theorem awp_false {o : Operand} {a b : Code} (hc : get s.slot o = .bool false) (h : Awp P ext n res b s Q) : Awp P ext n res (.cond o a b) s Q := by
  obtain ⟨x, s1, ⟨N1, h1⟩, h2⟩ := h
  exact ⟨x, s1, ⟨N1, fun N hN => by simp only [acode, hc]; exact h1 N hN⟩, h2⟩
theorem awp_cond {o : Operand} {a b : Code} {t : Bool} (hc : get s.slot o = .bool t) (h1 : t = true → Awp P ext n res a s Q) (h0 : t = false → Awp P ext n res b s Q) : Awp P ext n res (.cond o a b) s Q := by
  cases t with
  | true => exact awp_true hc (h1 rfl)
  | false => exact awp_false hc (h0 rfl)
def blockQ (id : Nat) (Q : X → St → Prop) : X → St → Prop
  | .exit i, s => if i = id then Q .normal s else Q (.exit i) s
  | x, s => Q x s
theorem awp_block {id : Nat} {b : Code} (h : Awp P ext n res b s (blockQ id Q)) : Awp P ext n res (.block id b) s Q := by
  obtain ⟨x, s1, ⟨N1, h1⟩, h2⟩ := h
  cases x with
  | normal => exact ⟨_, s1, ⟨N1, fun N hN => by simp only [acode]; have e := h1 N hN; simp only at e; rw [e]⟩, h2⟩
  | ret => exact ⟨_, s1, ⟨N1, fun N hN => by simp only [acode]; have e := h1 N hN; simp only at e; rw [e]⟩, h2⟩
  | exit i =>
    simp only [blockQ] at h2
    split at h2
    · rename_i hi
      exact ⟨.normal, s1, ⟨N1, fun N hN => by simp only [acode]; have e := h1 N hN; simp only at e; rw [e]; simp [hi]⟩, h2⟩
    · rename_i hi
      exact ⟨.exit i, s1, ⟨N1, fun N hN => by simp only [acode]; have e := h1 N hN; simp only at e; rw [e]; simp [hi]⟩, h2⟩
/-- A loop, by what holds at its head and what a round lowers. -/
theorem awp_loop {b : Code} (I : St → Prop) (μ : St → Nat) (h0 : I s) (round : ∀ s, I s → Awp P ext n res b s (thenQ (fun s' => I s' ∧ μ s' < μ s) Q)) : Awp P ext n res (.loop b) s Q := by
  have key : ∀ m s, μ s = m → I s → ∃ x s', Ev (fun N => aloop (acode P (aev P ext N) N n res b) N s) (x, s') ∧ Q x s' ∧ ∃ M, ∀ N, M ≤ N → ∀ k, M ≤ k → aloop (acode P (aev P ext N) N n res b) k s = some (x, s') := by
    intro m
    induction m using Nat.strongRecOn with
    | _ m ih =>
      intro s hm hI
      obtain ⟨x, s1, ⟨N1, h1⟩, h2⟩ := round s hI
      cases x with
      | normal =>
        obtain ⟨hI1, hlt⟩ := h2
        obtain ⟨y, s2, _, hq, M, hM⟩ := ih (μ s1) (hm ▸ hlt) s1 rfl hI1
        have hall : ∀ N, max N1 M + 1 ≤ N → ∀ k, max N1 M + 1 ≤ k → aloop (acode P (aev P ext N) N n res b) k s = some (y, s2) := by
          intro N hN k hk
          obtain ⟨k', rfl⟩ : ∃ k', k = k' + 1 := ⟨k - 1, by omega⟩
          simp only [aloop]
          have e := h1 N (by omega); simp only at e; rw [e]
          exact hM N (by omega) k' (by omega)
        exact ⟨y, s2, ⟨_, fun N hN => hall N hN N hN⟩, hq, _, hall⟩
      | exit id =>
        have hall : ∀ N, N1 + 1 ≤ N → ∀ k, N1 + 1 ≤ k → aloop (acode P (aev P ext N) N n res b) k s = some (.exit id, s1) := by
          intro N hN k hk
          obtain ⟨k', rfl⟩ : ∃ k', k = k' + 1 := ⟨k - 1, by omega⟩
          simp only [aloop]
          have e := h1 N (by omega); simp only at e; rw [e]
        exact ⟨_, s1, ⟨_, fun N hN => hall N hN N hN⟩, h2, _, hall⟩
      | ret =>
        have hall : ∀ N, N1 + 1 ≤ N → ∀ k, N1 + 1 ≤ k → aloop (acode P (aev P ext N) N n res b) k s = some (.ret, s1) := by
          intro N hN k hk
          obtain ⟨k', rfl⟩ : ∃ k', k = k' + 1 := ⟨k - 1, by omega⟩
          simp only [aloop]
          have e := h1 N (by omega); simp only at e; rw [e]
        exact ⟨_, s1, ⟨_, fun N hN => hall N hN N hN⟩, h2, _, hall⟩
  obtain ⟨x, s', h1, h2, _⟩ := key _ s rfl h0
  exact ⟨x, s', h1, h2⟩
/-- What a call hands back, by its body. -/
theorem callL_of {f : FuncId} {fn : Func} {c : Code} {args : List D} {pbs : List Bx} {R : D × List Room × List Bx} (hx : ext f args pbs = none) (hf : P.funcs[f]? = some fn) (hb : fn.body = some c)
    (h : Awp P ext (max args.length fn.ntmps) (resTmps fn) c (entry args pbs) (fun x s => leaving P fn pbs (some (x, s)) = some R)) : callL P ext f args pbs = some R := by
  obtain ⟨x, s', ⟨N, hN⟩, hq⟩ := h
  refine aev_callL (N := N + 1) ?_
  simp only [aev, hx, hf, hb]
  have e := hN N (Nat.le_refl N)
  simp only at e
  rw [e]
  exact hq
end
end Go.Av
