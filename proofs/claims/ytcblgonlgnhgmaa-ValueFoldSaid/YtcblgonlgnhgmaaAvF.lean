/- What a function hands back: the evaluator against the model. Over any program. -/
import Derived.Test.YtcblgonlgnhgmaaAvG
set_option linter.unusedVariables false
set_option linter.unusedSimpArgs false
set_option linter.unusedSectionVars false
namespace Go.Av
open Go.RowKit
variable [Gs]

section
variable {P : Program} {n : Nat} {S0 : Gv} {F0 : Nat → Nat → Prop} {w0 : World} {ν : Nat → Nat → Nat} {F : Nat → Nat → Prop} {cls : Nat → Nat → Option Nat} {s : St} {a : Act} {w : World}

theorem Den0.comp0 {v : Value} {d : D} (h : Den0 F w v d) : comp v 0 = some v ∧ dcomp d 0 = some d := by
  cases h with
  | con v hv =>
    refine ⟨?_, rfl⟩
    cases v with
    | tuple vs => simp [isCon] at hv
    | _ => rfl
  | _ => exact ⟨rfl, rfl⟩
/-- The claim of a result. -/
def rclaim (cls : Nat → Nat → Option Nat) : ResultVar → Option Nat
  | .tmp t => cls t 0
  | .cell _ _ => none
def rsem (a : Act) (r : ResultVar) : Sem Value := match r with
  | .tmp t => pure (a.tmps.getD t undef)
  | .cell b t => do loadVar t (← asAddr (a.tmps.getD b undef))
theorem rvar_sound (hI : Inv P n S0 F0 w0 ν F cls s a w) {v : ResultVar} {d : D} {m : List Room} (h : rvar P s v = some (d, m)) (hp : pureB d = true) :
    ∃ u, (rsem a v).run P w = .ok u w ∧ Den0 F w u d ∧ RoomAt P F w (some u) (some d) (some (room1 m)) (rclaim cls v) := by
  cases v with
  | tmp t =>
    simp only [rvar] at h
    injection h with h
    injection h with h1 h2
    subst h1 h2
    have hd := (hI.slots t).pureB_ hp
    refine ⟨_, rfl, hd, ?_⟩
    have hr := hI.rooms t 0
    have hcomp := hd.comp0
    rw [hcomp.1, hcomp.2] at hr
    cases hroom : s.room t with
    | nil => rw [hroom] at hr; exact hr
    | cons r rest => rw [hroom] at hr; exact hr
  | cell b t =>
    simp only [rvar] at h
    split at h
    · rename_i k g off hs
      split at h
      · rename_i bx hb
        split at h
        · rename_i hg
          obtain ⟨d', hd', he⟩ := Option.map_eq_some_iff.1 h
          injection he with h1 h2
          subst h1 h2
          have hsl := hI.slots b
          rw [hs] at hsl
          obtain ⟨u, hr, hd⟩ := box_load hI hsl hb hg hd'
          refine ⟨u, ?_, hd, rfl⟩
          obtain ⟨hv, _⟩ := hsl.ptr_
          simp only [rsem, hv, asAddr, Sem.run_bind, Sem.run_pure, Result.andThen_ok]
          simp only [hv, Instr.loadAt, Instr.sureAddr, Sem.run_bind, Sem.run_pure, Result.andThen_ok] at hr
          exact hr
        · cases h
      · cases h
    · cases h
theorem rvars_sound (hI : Inv P n S0 F0 w0 ν F cls s a w) : ∀ {l : List ResultVar} {ds : List (D × Room)}, rvars P s l = some ds →
    ∃ vs : List Value, (l.mapM (rsem a)).run P w = .ok vs w ∧ vs.length = ds.length ∧ l.length = ds.length ∧ (∀ (i : Nat) (v : Value) (x : D × Room), vs[i]? = some v → ds[i]? = some x → Den0 F w v x.1) ∧
      ∀ (i : Nat) (v : Value) (x : D × Room) (r : ResultVar), vs[i]? = some v → ds[i]? = some x → l[i]? = some r → RoomAt P F w (some v) (some x.1) (some x.2) (rclaim cls r)
  | [], ds, h => by
    simp only [rvars] at h
    injection h with h
    subst h
    exact ⟨[], by simp, rfl, rfl, fun i v x hv => by simp at hv, fun i v x r hv => by simp at hv⟩
  | v :: l, ds, h => by
    simp only [rvars] at h
    split at h
    · rename_i d m l' h1 h2
      split at h
      · rename_i hp
        injection h with h
        subst h
        obtain ⟨u, hr, hd, hroom⟩ := rvar_sound hI h1 hp
        obtain ⟨vs, k1, k2, k3, k4, k5⟩ := rvars_sound hI h2
        refine ⟨u :: vs, ?_, by simp [k2], by simp [k3], ?_, ?_⟩
        · simp only [List.mapM_cons, Sem.run_bind, hr, Result.andThen_ok, k1, Sem.run_pure]
        · intro i v x hv hx
          cases i with
          | zero =>
            simp at hv hx
            subst hv hx
            exact hd
          | succ i => exact k4 i v x hv hx
        · intro i v x r hv hx hr
          cases i with
          | zero =>
            simp at hv hx hr
            subst hv hx hr
            exact hroom
          | succ i => exact k5 i v x r hv hx hr
      · cases h
    · cases h
theorem noTwice_spec : ∀ {l : List Nat}, noTwice l = true → ∀ (i j x : Nat), l[i]? = some x → l[j]? = some x → i = j
  | [], _, i, j, x, h, _ => by simp at h
  | y :: l, h, i, j, x, h1, h2 => by
    simp only [noTwice, Bool.and_eq_true, Bool.not_eq_true', List.contains_eq_mem, decide_eq_false_iff_not] at h
    cases i with
    | zero =>
      cases j with
      | zero => rfl
      | succ j =>
        simp at h1 h2
        subst h1
        exact absurd (List.mem_of_getElem? h2) h.1
    | succ i =>
      cases j with
      | zero =>
        simp at h1 h2
        subst h2
        exact absurd (List.mem_of_getElem? h1) h.1
      | succ j =>
        simp at h1 h2
        rw [noTwice_spec h.2 i j x h1 h2]
theorem claims_apart (hI : Inv P n S0 F0 w0 ν F cls s a w) : ∀ {l : List ResultVar}, noTwice (l.filterMap fun | .tmp t => some t | _ => none) = true → ∀ (i j : Nat) (r r' : ResultVar) (g : Nat), l[i]? = some r → l[j]? = some r' → rclaim cls r = some g → rclaim cls r' = some g → i = j
  | [], _, i, j, r, r', g, h, _, _, _ => by simp at h
  | v :: l, hn, i, j, r, r', g, h1, h2, h3, h4 => by
    have hn' : noTwice (l.filterMap fun | .tmp t => some t | _ => none) = true := by
      cases v with
      | tmp t =>
        simp only [List.filterMap_cons, noTwice, Bool.and_eq_true] at hn
        exact hn.2
      | cell b t => simpa [List.filterMap_cons] using hn
    have far : ∀ (j : Nat) (r' : ResultVar), l[j]? = some r' → rclaim cls v = some g → rclaim cls r' = some g → False := by
      intro j r' hj hv hr
      cases v with
      | cell b t => cases hv
      | tmp t =>
        cases r' with
        | cell b t => cases hr
        | tmp t' =>
          obtain ⟨rfl, _⟩ := hI.inj _ _ _ _ _ hv hr
          simp only [List.filterMap_cons, noTwice, Bool.and_eq_true, Bool.not_eq_true', List.contains_eq_mem, decide_eq_false_iff_not] at hn
          exact hn.1 (List.mem_filterMap.2 ⟨.tmp t, List.mem_of_getElem? hj, rfl⟩)
    cases i with
    | zero =>
      cases j with
      | zero => rfl
      | succ j =>
        simp at h1 h2
        subst h1
        exact (far j r' h2 h3 h4).elim
    | succ i =>
      cases j with
      | zero =>
        simp at h1 h2
        subst h2
        exact (far i r h1 h4 h3).elim
      | succ j =>
        simp at h1 h2
        rw [claims_apart hI hn' i j r r' g h1 h2 h3 h4]

theorem finish_sound (hI : Inv P n S0 F0 w0 ν F cls s a w) {fn : Func} {d : D} {r : List Room} (h : finish P fn s = some (d, r)) :
    ∃ v ncl, (results fn a.tmps).run P w = .ok v w ∧ (∀ c ν, Den c ν F w v d) ∧ RoomsOK P F w v d r ncl ∧ (∀ i g, ncl i = some g → w0.heap.size ≤ g ∧ g < w.heap.size) ∧ ∀ i i' g, ncl i = some g → ncl i' = some g → i = i' := by
  unfold finish at h
  split at h
  · cases h
  rename_i hnt
  have hnt' : noTwice (resTmps fn) = true := by simpa using hnt
  have hsem : ∀ {vs : List Value}, (fn.results.toList.mapM (rsem a)).run P w = .ok vs w → (results fn a.tmps).run P w = .ok (if h : vs.toArray.size = 1 then vs.toArray[0] else .tuple vs.toArray) w := by
    intro vs hv
    have hres : results fn a.tmps = (do let vs ← fn.results.mapM (rsem a); pure (if h : vs.size = 1 then vs[0] else .tuple vs)) := by
      unfold results
      congr 1
    rw [hres, Sem.run_bind, Array.mapM_eq_mapM_toList]
    rw [show (Functor.map List.toArray (fn.results.toList.mapM (rsem a)) : Sem (Array Value)) = (do pure (← fn.results.toList.mapM (rsem a)).toArray) from rfl, Sem.run_bind, hv]
    rfl
  have loc : ∀ r g, rclaim cls r = some g → w0.heap.size ≤ g ∧ g < w.heap.size := fun r g h => by
    cases r with
    | tmp t => exact ⟨(hI.loc _ _ _ h).2, (hI.loc _ _ _ h).1⟩
    | cell b t => cases h
  split at h
  · rename_i d' r' hr
    injection h with h
    injection h with h1 h2
    subst h1 h2
    obtain ⟨vs, k1, k2, k3, k4, k5⟩ := rvars_sound hI hr
    have hs := hsem k1
    match vs, k2, hs, k4, k5 with
    | [v], _, hs, k4, k5 =>
      obtain ⟨rv, hrv⟩ : ∃ rv, fn.results.toList = [rv] := List.length_eq_one_iff.1 (by simpa using k3)
      have hd := k4 0 v _ rfl rfl
      have hroom := k5 0 v _ rv rfl rfl (by rw [hrv]; rfl)
      have hcomp := hd.comp0
      refine ⟨v, fun i => if i = 0 then rclaim cls rv else none, by simpa using hs, fun c ν => .pure _ _ hd, ?_, ?_, ?_⟩
      · intro i
        cases i with
        | zero =>
          rw [hcomp.1, hcomp.2]
          exact hroom
        | succ i => simp [RoomAt]
      · intro i g hg
        simp only at hg
        split at hg
        · exact loc rv g hg
        · cases hg
      · intro i i' g hg hg'
        simp only at hg hg'
        split at hg
        · split at hg'
          · omega
          · cases hg'
        · cases hg
  · rename_i l hne hr
    injection h with h
    injection h with h1 h2
    subst h1 h2
    obtain ⟨vs, k1, k2, k3, k4, k5⟩ := rvars_sound hI hr
    have hs := hsem k1
    have hl1 : vs.toArray.size ≠ 1 := by
      simp only [List.size_toArray]
      intro h1
      rw [k2] at h1
      obtain ⟨x, hx⟩ := List.length_eq_one_iff.1 h1
      exact hne x.1 x.2 hx
    rw [dif_neg hl1] at hs
    refine ⟨_, fun i => (fn.results.toList[i]?).bind (rclaim cls), hs, fun c ν => .tuple vs _ (by simp [k2]) ?_, ?_, ?_, ?_⟩
    · intro i v x hv hx
      rw [List.getElem?_map] at hx
      cases hli : l[i]? with
      | none => rw [hli] at hx; cases hx
      | some y =>
        rw [hli] at hx
        simp at hx
        subst hx
        exact .pure _ _ (k4 i v y hv hli)
    · intro i
      simp only [comp, dcomp, List.getElem?_map, List.getElem?_toArray]
      cases hli : l[i]? with
      | none =>
        have : fn.results.toList[i]? = none := by
          rw [List.getElem?_eq_none_iff] at hli ⊢
          omega
        simp [RoomAt, this]
      | some y =>
        obtain ⟨v, hv⟩ := getElem?_of_len k2.symm hli
        obtain ⟨rv, hrv⟩ := getElem?_of_len k3.symm hli
        simp only [hv, hrv, Option.map_some, Option.bind_some]
        exact k5 i v y rv hv hli hrv
    · intro i g hg
      obtain ⟨rv, _, hg⟩ := Option.bind_eq_some_iff.1 hg
      exact loc rv g hg
    · intro i i' g hg hg'
      obtain ⟨rv, h1, hg⟩ := Option.bind_eq_some_iff.1 hg
      obtain ⟨rv', h2, hg'⟩ := Option.bind_eq_some_iff.1 hg'
      exact claims_apart hI hnt' i i' rv rv' g h1 h2 hg hg'
  · cases h
end

theorem finishNew_sound {P : Program} {n : Nat} {S0 : Gv} {F0 : Nat → Nat → Prop} {w0 : World} {ν : Nat → Nat → Nat} {F : Nat → Nat → Prop} {cls : Nat → Nat → Option Nat} {s : St} {a : Act} {w : World}
    (hI : Inv P n S0 F0 w0 ν F cls s a w) {fn : Func} {b : Bx} (h : finishNew fn s = some b) (hS : ∀ k bx, s.box k = some bx → k < 1000000 → ¬ S0.S (ν k bx.gen)) :
    ∃ g, (results fn a.tmps).run P w = .ok (.pointer (some ⟨g, 0, none⟩)) w ∧ w0.heap.size ≤ g ∧ g < w.heap.size ∧ BoxAt F w g b.cells := by
  unfold finishNew at h
  split at h
  · rename_i t hr
    split at h
    · rename_i k g hs
      split at h
      · rename_i hk
        split at h
        · rename_i bx hb
          split at h
          · rename_i hg
            injection h with h
            subst h hg
            have hsl := hI.slots t
            rw [hs] at hsl
            obtain ⟨hv, _⟩ := hsl.ptr_
            have hr' : fn.results = #[.tmp t] := by apply Array.ext'; exact hr
            obtain ⟨h1, _, h3⟩ := hI.boxes k bx hb
            refine ⟨ν k bx.gen, ?_, h3.resolve_left (hS k bx hb hk), box_lt hI hb, h1⟩
            rw [results_tmp hr', hv]
          · cases h
        · cases h
      · cases h
    · cases h
  · cases h
theorem sound {P : Program} (hP : Fine P) (hdraw : ∀ call, CallOK P call → DrawOK P call) {ext : Call} (hext : CallOK P ext) : ∀ N, CallOK P (aev P ext N) := by
  intro N
  induction N with
  | zero => intro f args pbs d r pbs' h; simp [aev] at h
  | succ N ih =>
    intro f args pbs d r pbs' h
    simp only [aev] at h
    split at h
    · rename_i r0 hr0
      injection h with h
      subst h
      exact hext f args pbs d r pbs' hr0
    split at h
    · cases h
    rename_i fn hf
    split at h
    · cases h
    rename_i c hb
    refine ⟨⟨fn, hf, by rw [hb]; rfl⟩, ?_⟩
    intro vals w F μ hl hd hbx hμ hlt hgok
    refine calls_of_wp hf hb ?_
    have hsz : vals.toArray.size = args.length := by simpa using hl
    have hInv : Inv P (max args.length fn.ntmps) ⟨pbs.length, μ⟩ F w (argNu μ) F (fun _ _ => none) (entry args pbs) { tmps := vals.toArray ++ Array.replicate (fn.ntmps - vals.toArray.size) undef, defers := [] } w := by
      refine ⟨Ext.refl _ _ _, hlt, fun b o h => .inl h, ?_, rfl, ?_, ?_, fun j i j' i' g h => (by cases h), fun j i g k bx h => (by cases h), fun j i g h => (by cases h), ?_, ?_, ?_, hgok⟩
      · simp only [Array.size_append, Array.size_replicate, hsz]
        omega
      · intro j
        simp only [entry]
        by_cases hj : j < args.length
        · have hjv : j < vals.length := by omega
          have e1 : (vals.toArray ++ Array.replicate (fn.ntmps - vals.toArray.size) undef).getD j undef = vals[j] := by
            simp [Array.getD_eq_getD_getElem?, Array.getElem?_append, hjv]
          have e2 : args.getD j (.tuple []) = args[j] := by simp [List.getD, hj]
          rw [e1, e2]
          exact hd j _ _ (List.getElem?_eq_getElem hjv) (List.getElem?_eq_getElem hj)
        · have e1 : (vals.toArray ++ Array.replicate (fn.ntmps - vals.toArray.size) undef).getD j undef = undef := by
            have hjv : ¬ j < vals.length := by omega
            simp only [Array.getD_eq_getD_getElem?, Array.getElem?_append, List.size_toArray, hjv, if_false, Array.getElem?_replicate]
            split <;> rfl
          have e2 : args.getD j (.tuple []) = .tuple [] := by simp [List.getD, List.getElem?_eq_none (Nat.le_of_not_lt hj)]
          rw [e1, e2]
          exact .tuple [] [] rfl (fun i v x hv => by simp at hv)
      · intro j
        exact rooms_nil
      · intro k bx hk
        simp only [entry] at hk
        split at hk
        · rename_i hge
          obtain ⟨h1, h2⟩ := hbx _ bx hk
          exact ⟨h1, by rw [h2]; exact Nat.zero_lt_one, .inl ⟨k - 1000000, (List.getElem?_eq_some_iff.1 hk).1, rfl⟩⟩
        · cases hk
      · intro k bx k' bx' h1 h2 he
        simp only [entry] at h1 h2
        split at h1
        · split at h2
          · have := hμ _ _ (List.getElem?_eq_some_iff.1 h1).1 (List.getElem?_eq_some_iff.1 h2).1 he
            omega
          · cases h2
        · cases h1
      · intro i hi
        have hi' : i < pbs.length := hi
        refine ⟨pbs[i], ?_, (hbx i _ (List.getElem?_eq_getElem hi')).2, ?_⟩
        · simp [entry, pid, hi']
        · simp [argNu, pid]
    have gv : ∀ {s' : St} {a' : Act} {w' : World} {ν : Nat → Nat → Nat} {F' : Nat → Nat → Prop} {cls : Nat → Nat → Option Nat}, Inv P (max args.length fn.ntmps) ⟨pbs.length, μ⟩ F w ν F' cls s' a' w' → ∀ i bx, i < pbs.length → ((List.range pbs.length).map fun i => (s'.box (pid i)).getD default)[i]? = some bx → BoxAt F' w' (μ i) bx.cells := by
      intro s' a' w' ν F' cls hI i bx hilt hi
      rw [List.getElem?_map] at hi
      cases hr : (List.range pbs.length)[i]? with
      | none => rw [hr] at hi; cases hi
      | some j =>
        rw [hr] at hi
        obtain ⟨hlt', hj⟩ := List.getElem?_eq_some_iff.1 hr
        simp at hj hlt'
        subst hj
        simp at hi
        obtain ⟨b0, h1, h2, h3⟩ := hI.given i hlt'
        rw [h1] at hi
        simp at hi
        subst hi
        have := (hI.boxes _ _ h1).1
        rw [h2, h3] at this
        exact this
    have fin : ∀ (s' : St) (a' : Act) (w' : World), Rep P (max args.length fn.ntmps) ⟨pbs.length, μ⟩ F w s' a' w' → (match finish P fn s' with
        | some (d, r) => some (d, r, (List.range pbs.length).map fun i => (s'.box (pid i)).getD default)
        | none => (finishNew fn s').map fun b => (.ptr nid 0 0, [], ((List.range pbs.length).map fun i => (s'.box (pid i)).getD default) ++ [b])) = some (d, r, pbs') → a'.defers = [] ∧ ∃ v, (results fn a'.tmps).run P w' = .ok v w' ∧ Ret P pbs.length μ F w d r pbs' (.returned v) w' := by
      intro s' a' w' ⟨ν, F', cls, hI⟩ hfin
      split at hfin
      · rename_i d' r' hfn
        injection hfin with hfin
        injection hfin with h1 h2
        injection h2 with h2 h3
        subst h1 h2 h3
        obtain ⟨v, ncl, k1, k2, k3, k4, k5⟩ := finish_sound hI hfn
        refine ⟨hI.defers, v, k1, v, F', ncl, rfl, hI.ext, hI.lt, hI.news, .inl ⟨by simp, k2, k3⟩, k4, k5, gv hI⟩
      · obtain ⟨b, hb0, hfin⟩ := Option.map_eq_some_iff.1 hfin
        injection hfin with h1 h2
        injection h2 with h2 h3
        subst h1 h2 h3
        obtain ⟨g, k1, k2, k3, k4⟩ := finishNew_sound hI hb0 (fun k bx hbk hk hS => by
          obtain ⟨i, hi, he⟩ := hS
          obtain ⟨b1, g1, g2, g3⟩ := hI.given i hi
          have := hI.binj (pid i) b1 k bx g1 hbk (by rw [g2, g3]; exact he)
          unfold pid at this
          omega)
        refine ⟨hI.defers, _, k1, _, F', fun _ => none, rfl, hI.ext, hI.lt, hI.news, .inr ⟨by simp, g, rfl, k2, k3, fun bx hbx => ?_⟩, fun i g h => (by cases h), fun i i' g h => (by cases h), fun i bx hi hbx => gv hI i bx hi ?_⟩
        · rw [List.getElem?_append_right (by simp)] at hbx
          simp at hbx
          subst hbx
          exact k4
        · rw [List.getElem?_append_left (by simpa using hi)] at hbx
          exact hbx
    unfold leaving at h
    split at h
    · rename_i s' hc
      exact code_sound hP ih (hdraw _ ih) c _ .normal s' _ w _ ⟨_, _, _, hInv⟩ hc fun a' w' hR => fin s' a' w' hR h
    · rename_i s' hc
      exact code_sound hP ih (hdraw _ ih) c _ .ret s' _ w _ ⟨_, _, _, hInv⟩ hc fun a' w' hR => fin s' a' w' hR h
    · cases h
end Go.Av
