/- Regions in the order of the text, code, functions: the evaluator against the model. Over any program. -/
import Derived.Test.YtcblgonlgnhgmaaAvB
import Derived.LoopN
set_option linter.unusedVariables false
set_option linter.unusedSimpArgs false
set_option linter.unusedSectionVars false
namespace Go.Av
open Go.RowKit
variable [Gs]

section
variable {P : Program} {n : Nat} {S0 : Gv} {F0 : Nat → Nat → Prop} {w0 : World} {s : St} {a : Act} {w : World}
variable {K : Act → World → Prop} {Q : Exit → Act → World → Prop} {o : Oper} {call : Call} {E : List Tmp}

theorem inB_spec (h : inB n o = true) : ∀ k, o.dst = some k → k < n := fun k hk => by
  unfold inB at h
  rw [hk] at h
  simpa using h
theorem Rep.put0 (hR : Rep P n S0 F0 w0 s a w) (hin : ∀ k, o.dst = some k → k < n) : Rep P n S0 F0 w0 (s.put o.dst (.tuple []) []) (a.put o.dst undef) w := by
  obtain ⟨ν, F, cls, hI⟩ := hR
  obtain ⟨cls', h⟩ := hI.put0 hin (dst := o.dst) (v := undef) (d := .tuple []) (.tuple [] [] rfl (fun i v x hv => by simp at hv))
  exact ⟨ν, F, cls', h⟩
theorem Rep.drew (hR : Rep P n S0 F0 w0 s a w) : Rep P n S0 F0 w0 s a w.drew := by
  obtain ⟨ν, F, cls, hI⟩ := hR
  obtain ⟨cls', h⟩ := hI.put (T := fun _ => False) (dst := none) (v := undef) (d := .bad) (r := []) (ncl := fun _ => none) (F' := F) (w' := w.drew) (fun k h => by cases h) (Ext.refl _ F w).drew hI.lt (fun b o h => .inl h) (.bad _) rooms_nil (fun b h => h.elim) (fun _ _ _ _ h => h) (fun _ _ _ h => h) (fun i g h => by cases h) (fun i i' g h => by cases h)
  exact ⟨ν, F, cls', h⟩
/-- The guard, as the model asks it. -/
theorem wanted_sound (hR : Rep P n S0 F0 w0 s a w) {ops : Array Oper} {b : Bool} (h : dwanted ops.toList s o = some b) : Region.wanted o (yielded ops a.tmps) = b := by
  obtain ⟨ν, F, cls, hI⟩ := hR
  unfold dwanted at h
  unfold Region.wanted
  split at h
  · rename_i hg
    injection h with h
    rw [hg, h]
  · rename_i j want hg
    rw [hg]
    simp only [Array.getElem?_toList] at h
    split at h
    · cases h
    · rename_i t ht
      have hslot := hI.slots t
      simp only [yielded, ht, Option.bind_some]
      split at h
      · rename_i b' hb
        injection h with h
        subst h
        rw [hb] at hslot
        have hv := hslot.bool_
        have hlt : a.tmps[t]? = some (.bool b') := by
          cases ht' : a.tmps[t]? with
          | none => simp [Array.getD_eq_getD_getElem?, ht', undef] at hv
          | some x => simp [Array.getD_eq_getD_getElem?, ht'] at hv; rw [hv]
        simp [hlt]
      · rename_i hb
        injection h with h
        subst h
        rw [hb] at hslot
        obtain ⟨vs, hv, hl, _⟩ := hslot.tuple_
        have hvs : vs = [] := List.length_eq_zero_iff.1 hl
        subst hvs
        cases ht' : a.tmps[t]? with
        | none => simp
        | some x =>
          simp [Array.getD_eq_getD_getElem?, ht'] at hv
          simp [hv]
      · cases h
theorem step_sound (hP : Fine P) (hcall : CallOK P call) (hR : Rep P n S0 F0 w0 s a w) {ops : Array Oper} {s' : St} (h : step P call n E ops.toList o s = some s') (hK : ∀ a' w', Rep P n S0 F0 w0 s' a' w' → K a' w') :
    if Region.wanted o (yielded ops a.tmps) then o.wp P a w K Q else K (a.put o.dst undef) w := by
  unfold step at h
  split at h
  · rename_i hin
    have hin' := inB_spec hin
    split at h
    · cases h
    · rename_i hw
      rw [wanted_sound hR hw]
      injection h with h
      subst h
      simp only [Bool.false_eq_true, if_false]
      exact hK _ _ (hR.put0 hin')
    · rename_i hw
      rw [wanted_sound hR hw]
      simp only [if_true]
      obtain ⟨ν, F, cls, hI⟩ := hR
      have hS : stepS P call E o s = some s' → o.wp P a w K Q := fun h => stepS_sound hP hcall hI hin' h fun a' w' ⟨F', cls', h⟩ => hK a' w' ⟨ν, F', cls', h⟩
      split at h
      · exact stepBox_sound hI hin' h hK
      · exact stepBox_sound hI hin' h hK
      · exact stepBox_sound hI hin' h hK
      · split at h
        · exact stepPtr_sound hP hcall hI hin' h hK
        · cases hst : stepS P call E o s with
          | some s1 => rw [hst] at h; exact hS (by rw [hst]; exact h)
          | none => rw [hst] at h; exact stepNew_sound hP hcall hI hin' h hK
      · exact hS h
  · cases h
theorem runOps_sound (hP : Fine P) (hcall : CallOK P call) {ops : Array Oper} {s' : St} (hQ : ∀ a' w', Rep P n S0 F0 w0 s' a' w' → Q .normal a' w') :
    ∀ (l : List Oper) (s : St) (a : Act) (w : World), Rep P n S0 F0 w0 s a w → runOps P call n E ops.toList l s = some s' → wpList P ops Q l a w
  | [], s, a, w, hR, h => by
    simp only [runOps] at h
    injection h with h
    subst h
    exact wpList_nil (hQ _ _ hR)
  | o :: l, s, a, w, hR, h => by
    simp only [runOps] at h
    obtain ⟨s1, h1, h2⟩ := Option.bind_eq_some_iff.1 h
    refine wpList_step fun K hK => ?_
    split at h1
    · exact stepRow_sound hR h1 fun a' w' hR' => hK _ _ (runOps_sound hP hcall hQ l s1 a' w' hR' h2)
    · exact step_sound hP hcall hR h1 fun a' w' hR' => hK _ _ (runOps_sound hP hcall hQ l s1 a' w' hR' h2)
end

def X.toExit : X → Exit
  | .normal => .normal
  | .exit id => .exit id
  | .ret => .ret
/-- What is asked of a region that draws its order: the model's walk of every order. -/
def DrawOK (P : Program) (call : Call) : Prop :=
  ∀ (n : Nat) (S0 : Gv) (F0 : Nat → Nat → Prop) (w0 : World) (E : List Tmp) (id : Nat) (ops : Array Oper) (s s' : St) (a : Act) (w : World) (Q : Exit → Act → World → Prop),
    Rep P n S0 F0 w0 s a w → runDraw P call n E ops.toList s = some s' → (∀ a' w', Rep P n S0 F0 w0 s' a' w' → Q .normal a' w') → (Code.region id ops true).wp P Q a w

section
variable {P : Program} {n : Nat} {S0 : Gv} {F0 : Nat → Nat → Prop} {w0 : World} {call : Call} {N : Nat} {res : List Tmp}

theorem loop_sound {c : Code} {f : St → Option (X × St)} (hc : ∀ (s : St) (x : X) (s' : St) (a : Act) (w : World) (Q : Exit → Act → World → Prop), Rep P n S0 F0 w0 s a w → f s = some (x, s') → (∀ a' w', Rep P n S0 F0 w0 s' a' w' → Q x.toExit a' w') → c.wp P Q a w)
    {Q : Exit → Act → World → Prop} {x : X} {s' : St} (hx : x ≠ .normal) (hQ : ∀ a' w', Rep P n S0 F0 w0 s' a' w' → Q x.toExit a' w') :
    ∀ (m : Nat) (s : St) (a : Act) (w : World), Rep P n S0 F0 w0 s a w → aloop f m s = some (x, s') → Code.rounds P c Q m a w
  | 0, s, a, w, _, h => by simp [aloop] at h
  | m + 1, s, a, w, hR, h => by
    rw [rounds_succ]
    simp only [aloop] at h
    split at h
    · rename_i s1 h1
      exact hc s .normal s1 a w _ hR h1 fun a' w' hR' => loop_sound hc hx hQ m s1 a' w' hR' h
    · refine hc s x s' a w _ hR h fun a' w' hR' => ?_
      cases x with
      | normal => exact absurd rfl hx
      | exit id => exact hQ a' w' hR'
      | ret => exact hQ a' w' hR'
theorem aloop_ne {f : St → Option (X × St)} {x : X} {s' : St} : ∀ (m : Nat) (s : St), aloop f m s = some (x, s') → x ≠ .normal
  | 0, s, h => by simp [aloop] at h
  | m + 1, s, h => by
    simp only [aloop] at h
    split at h
    · exact aloop_ne m _ h
    · rename_i hn
      rintro rfl
      exact hn s' h
theorem code_sound (hP : Fine P) (hcall : CallOK P call) (hdraw : DrawOK P call) : ∀ (c : Code) (s : St) (x : X) (s' : St) (a : Act) (w : World) (Q : Exit → Act → World → Prop), Rep P n S0 F0 w0 s a w →
    acode P call N n res c s = some (x, s') → (∀ a' w', Rep P n S0 F0 w0 s' a' w' → Q x.toExit a' w') → c.wp P Q a w := by
  intro c
  induction c with
  | skip =>
    intro s x s' a w Q hR h hQ
    simp only [acode] at h
    injection h with h
    injection h with h1 h2
    subst h1 h2
    exact wp_skip (hQ _ _ hR)
  | region id ops draw =>
    intro s x s' a w Q hR h hQ
    simp only [acode] at h
    obtain ⟨s1, h1, h2⟩ := Option.map_eq_some_iff.1 h
    injection h2 with h2 h3
    subst h2 h3
    cases draw with
    | true => exact hdraw n S0 F0 w0 _ id ops _ s1 a w Q (Rep.frz _ hR) h1 hQ
    | false => exact wp_region_list (runOps_sound hP hcall hQ ops.toList _ a w (Rep.frz _ hR) h1)
  | seq c1 c2 ih1 ih2 =>
    intro s x s' a w Q hR h hQ
    simp only [acode] at h
    refine wp_seq ?_
    split at h
    · rename_i s1 h1
      exact ih1 s .normal s1 a w _ hR h1 fun a' w' hR' => ih2 s1 x s' a' w' Q hR' h hQ
    · rename_i hn
      refine ih1 s x s' a w _ hR h fun a' w' hR' => ?_
      cases x with
      | normal => exact absurd h (hn s')
      | exit id => exact hQ a' w' hR'
      | ret => exact hQ a' w' hR'
  | cond c c1 c2 ih1 ih2 =>
    intro s x s' a w Q hR h hQ
    simp only [acode] at h
    have hg : ∀ b, get s.slot c = .bool b → a.eval c = .bool b := fun b hb => by
      obtain ⟨ν, F, cls, hI⟩ := hR
      have := get_den hI.gok hI.slots (a := a) c
      rw [hb] at this
      exact this.bool_
    split at h
    · rename_i hb
      exact wp_cond_true (hg true hb) (ih1 s x s' a w Q hR h hQ)
    · rename_i hb
      exact wp_cond_false (hg false hb) (ih2 s x s' a w Q hR h hQ)
    · cases h
  | block id c ih =>
    intro s x s' a w Q hR h hQ
    simp only [acode] at h
    refine wp_block ?_
    split at h
    · rename_i i s1 h1
      split at h
      · rename_i hi
        injection h with h
        injection h with h2 h3
        subst h2 h3 hi
        refine ih s (.exit i) s1 a w _ hR h1 fun a' w' hR' => ?_
        simp only [X.toExit, Exit.inBlock, if_true]
        exact hQ a' w' hR'
      · rename_i hi
        injection h with h
        injection h with h2 h3
        subst h2 h3
        refine ih s (.exit i) s1 a w _ hR h1 fun a' w' hR' => ?_
        simp only [X.toExit, Exit.inBlock, if_neg hi]
        exact hQ a' w' hR'
    · rename_i hn
      refine ih s x s' a w _ hR h fun a' w' hR' => ?_
      cases x with
      | normal => exact hQ a' w' hR'
      | exit i => exact absurd h (hn i s')
      | ret => exact hQ a' w' hR'
  | loop c ih =>
    intro s x s' a w Q hR h hQ
    simp only [acode] at h
    exact wp_loop_rounds N (loop_sound (f := acode P call N n res c) ih (aloop_ne N s h) hQ N s a w hR h)
  | exit id =>
    intro s x s' a w Q hR h hQ
    simp only [acode] at h
    injection h with h
    injection h with h1 h2
    subst h1 h2
    exact wp_exit (hQ _ _ hR)
  | ret =>
    intro s x s' a w Q hR h hQ
    simp only [acode] at h
    injection h with h
    injection h with h1 h2
    subst h1 h2
    exact wp_ret (hQ _ _ hR)
  | _ => intro s x s' a w Q hR h hQ; simp [acode] at h
end
end Go.Av
