/- A step that turns no variable, against the model. Over any program; the callees by what is asked of 'call'. -/
import Derived.Test.YtcblgonlgnhgmaaAvP
set_option linter.unusedVariables false
set_option linter.unusedSimpArgs false
set_option linter.unusedSectionVars false
namespace Go.Av
open Go.RowKit
variable [Gs]

section
variable {P : Program} {n : Nat} {S0 : Gv} {F0 : Nat → Nat → Prop} {w0 : World} {ν : Nat → Nat → Nat} {F : Nat → Nat → Prop} {cls : Nat → Nat → Option Nat} {s : St} {a : Act} {w : World}
variable {K : Act → World → Prop} {Q : Exit → Act → World → Prop} {o : Oper} {call : Call} {E : List Tmp}

theorem plainR_spec {x : Option (D × List Room × List Bx)} {d : D} {r : List Room} (h : plainR x = some (d, r)) : x = some (d, r, []) := by
  unfold plainR at h
  split at h
  · injection h with h
    injection h with h1 h2
    rw [h1, h2]
  · cases h
theorem ok_some {d0 : Option D} {d : D} {r : List Room} (h : d0.map (fun d => (d, ([] : List Room))) = some (d, r)) : d0 = some d ∧ r = [] := by
  obtain ⟨x, hx, he⟩ := Option.map_eq_some_iff.1 h
  injection he with h1 h2
  exact ⟨by rw [hx, h1], h2.symm⟩
theorem box_load (hI : Inv P n S0 F0 w0 ν F cls s a w) {k g off : Nat} {bx : Bx} {t : TypeId} {d : D} {v : Value} (hv : Den s.ctr ν F w v (.ptr k g off)) (hb : s.box k = some bx) (hg : bx.gen = g) (h : dpart P t bx.cells off = some d) :
    ∃ u, (Instr.loadAt t v).run P w = .ok u w ∧ Den0 F w u d := by
  obtain ⟨rfl, _⟩ := hv.ptr_
  subst hg
  obtain ⟨⟨vs, ty, rest, fr, ⟨h1, _⟩, h2, h3, h4, _⟩, _⟩ := hI.boxes k bx hb
  obtain ⟨u, hr, hd⟩ := run_load_part (P := P) (F := F) (w := w) (b := ν k bx.gen) (o := 0) h2 (fun i v hi => ⟨by
    rw [cell_of_row w _ _ _ _ _ h1, Nat.zero_add]
    have hlt := (List.getElem?_eq_some_iff.1 hi).1
    simpa [List.getElem?_append_left hlt] using hi, h3 v (List.mem_of_getElem? hi)⟩) h4 h
  rw [Nat.zero_add] at hr
  exact ⟨u, by simp only [Instr.loadAt, Instr.sureAddr, Sem.run_bind, Sem.run_pure, Result.andThen_ok, hr], hd⟩

set_option maxHeartbeats 1000000 in
theorem stepS_sound (hP : Fine P) (hcall : CallOK P call) (hI : Inv P n S0 F0 w0 ν F cls s a w) {s' : St} (hin : ∀ k, o.dst = some k → k < n) (h : stepS P call E o s = some s')
    (hK : ∀ a' w', (∃ F' cls', Inv P n S0 F0 w0 ν F' cls' s' a' w') → K a' w') : o.wp P a w K Q := by
  obtain ⟨dst, op, ty, pos, after, guard⟩ := o
  unfold stepS at h
  split at h
  case h_2 => cases h
  rename_i d r hv
  injection h with h
  subst h
  have G := fun x => get_den hI.gok hI.slots (a := a) x
  cases op with
  | move x =>
    simp only [sval] at hv
    injection hv with hv
    injection hv with hv1 hv2
    subst hv1 hv2
    cases x with
    | tmp t =>
      by_cases hst : eats E dst = true
      · have htk : stake E (⟨dst, .move (.tmp t), ty, pos, after, guard⟩ : Oper) = some (t, none) := by simp [stake, hst]
        rw [htk] at hK
        refine wp_value hI hin rfl (Ext.refl _ _ _) hI.lt (fun b o h => .inl h) (G (.tmp t)) (ncl := cls t) (hI.rooms t) (tk := some (t, none)) (fun i g h => ⟨(hI.loc t i g h).1, .inr (show took cls (some (t, none)) g from ⟨i, h⟩)⟩) (fun i i' g h h' => (hI.inj _ _ _ _ g h h').2) hK
      · have htk : stake E (⟨dst, .move (.tmp t), ty, pos, after, guard⟩ : Oper) = none := by simp [stake, hst]
        rw [htk] at hK
        exact wp_same hI hin rfl (G (.tmp t)) hK
    | const v => exact wp_value hI hin rfl (Ext.refl _ _ _) hI.lt (fun b o h => .inl h) (G (.const v)) (croom_ok (.const v)) (fun i g h => by cases h) (fun i i' g h => by cases h) hK
    | global g => exact wp_same hI hin rfl (G (.global g)) hK
    | func f => exact wp_same hI hin rfl (G (.func f)) hK
  | assign x =>
    simp only [sval] at hv
    injection hv with hv
    injection hv with hv1 hv2
    subst hv1 hv2
    cases x with
    | tmp t => exact wp_value hI hin rfl (Ext.refl _ _ _) hI.lt (fun b o h => .inl h) (G (.tmp t)) (ncl := cls t) (hI.rooms t) (tk := some (t, none)) (fun i g h => ⟨(hI.loc t i g h).1, .inr (show took cls (some (t, none)) g from ⟨i, h⟩)⟩) (fun i i' g h h' => (hI.inj _ _ _ _ g h h').2) hK
    | const v => exact wp_value hI hin rfl (Ext.refl _ _ _) hI.lt (fun b o h => .inl h) (G (.const v)) (croom_ok (.const v)) (fun i g h => by cases h) (fun i i' g h => by cases h) hK
    | global g => exact wp_same hI hin rfl (G (.global g)) hK
    | func f => exact wp_same hI hin rfl (G (.func f)) hK
  | pick c x y =>
    simp only [sval] at hv
    split at hv
    · rename_i t ht
      injection hv with hv
      injection hv with hv1 hv2
      subst hv1 hv2
      have hc := G c
      rw [ht] at hc
      have hrun : (execOp a.eval ⟨dst, .pick c x y, ty, pos, after, guard⟩).run P w = .ok (.value (if t then a.eval x else a.eval y)) w := by
        simp only [execOp, hc.bool_, asBool, Sem.run_bind, Sem.run_pure, Result.andThen_ok]
      refine wp_same hI hin hrun ?_ hK
      cases t
      · exact G y
      · exact G x
    · cases hv
  | load t x =>
    simp only [sval] at hv
    split at hv
    · rename_i d0 off hx
      obtain ⟨hv1, rfl⟩ := ok_some hv
      have hg := G x
      rw [hx] at hg
      obtain ⟨u, hr, hd⟩ := run_load_fix (P := P) hg.fix_ hv1
      exact wp_same hI hin (exec_v hr) (.pure _ _ hd) hK
    · rename_i k g off hx
      split at hv
      · rename_i bx hb
        split at hv
        · rename_i hgen
          obtain ⟨hv1, rfl⟩ := ok_some hv
          have hg := G x
          rw [hx] at hg
          obtain ⟨u, hr, hd⟩ := box_load hI hg hb hgen hv1
          exact wp_same hI hin (exec_v hr) (.pure _ _ hd) hK
        · cases hv
      · cases hv
    · cases hv
  | nilCheck x =>
    simp only [sval] at hv
    split at hv
    · rename_i d0 off hx
      injection hv with hv
      injection hv with hv1 hv2
      subst hv1 hv2
      have hg := G x
      rw [hx] at hg
      have hg' := hg.fix_
      generalize hval : a.eval x = u at hg hg'
      cases hg'
      refine wp_same hI hin ?_ hg hK
      simp only [execOp, hval]
      rfl
    · rename_i k g off hx
      injection hv with hv
      injection hv with hv1 hv2
      subst hv1 hv2
      have hg := G x
      rw [hx] at hg
      have hval := hg.ptr_.1
      refine wp_same hI hin (v := a.eval x) ?_ hg hK
      simp only [execOp, hval]
      rfl
    · cases hv
  | binOp op t x y yt =>
    simp only [sval] at hv
    obtain ⟨hv1, rfl⟩ := ok_some hv
    obtain ⟨u, hr, hd⟩ := run_bin (P := P) (G x) (G y) hv1
    exact wp_same hI hin (exec_v hr) hd hK
  | unOp op t x =>
    simp only [sval] at hv
    obtain ⟨hv1, rfl⟩ := ok_some hv
    obtain ⟨u, hr, hd⟩ := run_un (P := P) (G x) hv1
    exact wp_same hI hin (exec_v hr) hd hK
  | convert src dt x =>
    simp only [sval] at hv
    obtain ⟨hv1, rfl⟩ := ok_some hv
    obtain ⟨u, w', F', hr, hE, hlt, hnew, hd⟩ := run_conv (P := P) hI.lt (G x) hv1
    exact wp_value hI hin (exec_v hr) (hE.weaken fun b _ h => h.elim) hlt (fun b o h => (hnew b o h).imp id .inl) (.pure _ _ hd) rooms_nil (fun i g h => by cases h) (fun i i' g h => by cases h) hK
  | makeInterface t x =>
    simp only [sval] at hv
    split at hv
    · cases hv
    · cases hv
    · rename_i td hnot htd
      injection hv with hv
      injection hv with hv1 hv2
      subst hv1 hv2
      have hr : (Instr.makeInterface t (a.eval x)).run P w = .ok (.iface t (a.eval x)) w := by
        simp only [Instr.makeInterface, Sem.run_bind, run_underlying htd, Result.andThen_ok]
        cases td <;> first | rfl | exact absurd rfl (hnot _)
      exact wp_same hI hin (exec_v hr) (.iface t _ _ (G x)) hK
  | makeFunc fn f cp =>
    simp only [sval] at hv
    injection hv with hv
    injection hv with hv1 hv2
    subst hv1 hv2
    obtain ⟨f1, f2⟩ := map_den hI f.toList
    obtain ⟨c1, c2⟩ := map_den hI cp.toList
    have hd : Den s.ctr ν F w (.func fn (f.toList.map a.eval).toArray (cp.toList.map a.eval).toArray) (.func fn (f.toList.map (get s.slot)) (cp.toList.map (get s.slot))) := .func fn _ _ _ _ f1 c1 f2 c2
    refine wp_same hI hin (v := .func fn (f.map a.eval) (cp.map a.eval)) rfl ?_ hK
    have e1 : f.map a.eval = (f.toList.map a.eval).toArray := by apply Array.ext'; simp
    have e2 : cp.map a.eval = (cp.toList.map a.eval).toArray := by apply Array.ext'; simp
    rw [e1, e2]
    exact hd
  | makeSlice t l cc =>
    simp only [sval] at hv
    obtain ⟨e, he, hv⟩ := Option.map_eq_some_iff.1 hv
    injection hv with hv1 hv2
    subst hv1 hv2
    obtain ⟨v, w', hr, hE, hlt, hd, hO⟩ := run_make_ (P := P) hI.lt (G l) (G cc) he
    refine wp_value hI hin (exec_v hr) (hE.weaken fun b _ h => h.elim) hlt (fun b o h => .inl h) (.pure _ _ hd) (ncl := fun i => if i = 0 then some w.heap.size else none) ?_ ?_ ?_ hK
    · intro i
      cases i with
      | zero => exact ⟨v, [], comp_zero_list hd, rfl, hO⟩
      | succ i => simp [RoomAt]
    · intro i g hg
      split at hg
      · injection hg with hg
        subst hg
        obtain ⟨_, _, _, _, h2, _⟩ := hO
        exact ⟨lt_of_heap h2, .inl (Nat.le_refl _)⟩
      · cases hg
    · intro i i' g hg hg'
      split at hg
      · split at hg'
        · omega
        · cases hg'
      · cases hg
  | slice t x lo hi mx =>
    simp only [sval] at hv
    obtain ⟨hv1, rfl⟩ := ok_some hv
    cases mx with
    | some m => simp [dslice] at hv1
    | none =>
      obtain ⟨u, hr, hd⟩ := run_slice_ (P := P) (G x) (lo := lo.map (get s.slot)) (hi := hi.map (get s.slot)) (vlo := lo.map a.eval) (vhi := hi.map a.eval)
        (fun v d h1 h2 => by cases lo with | none => cases h1 | some y => injection h1 with h1; injection h2 with h2; subst h1 h2; exact G y)
        (fun v d h1 h2 => by cases hi with | none => cases h1 | some y => injection h1 with h1; injection h2 with h2; subst h1 h2; exact G y) (by simp) (by simp) hv1
      exact wp_same hI hin (exec_v hr) hd hK
  | fieldAddr t x i =>
    simp only [sval] at hv
    obtain ⟨hv1, rfl⟩ := ok_some hv
    obtain ⟨u, hr, hd⟩ := run_fieldAddr (P := P) (G x) hv1
    exact wp_same hI hin (exec_v hr) hd hK
  | field t x i =>
    simp only [sval] at hv
    obtain ⟨hv1, rfl⟩ := ok_some hv
    obtain ⟨u, hr, hd⟩ := run_field (P := P) (G x) hv1
    exact wp_same hI hin (exec_v hr) hd hK
  | indexAddr t x i =>
    simp only [sval] at hv
    obtain ⟨hv1, rfl⟩ := ok_some hv
    obtain ⟨u, hr, hd⟩ := run_indexAddr (P := P) (G x) (G i) hv1
    exact wp_same hI hin (exec_v hr) hd hK
  | index t x i =>
    simp only [sval] at hv
    obtain ⟨hv1, rfl⟩ := ok_some hv
    obtain ⟨u, hr, hd⟩ := run_index (P := P) (G x) (G i) hv1
    exact wp_same hI hin (exec_v hr) hd hK
  | extract x i =>
    simp only [sval] at hv
    split at hv
    · rename_i cs hx
      split at hv
      · rename_i d0 hd0
        injection hv with hv
        injection hv with hv1 hv2
        subst hv1 hv2
        have hg := G x
        rw [hx] at hg
        obtain ⟨u, hr, hd⟩ := run_extract (P := P) hg hd0
        cases x with
        | tmp t =>
          obtain ⟨vs, hvs, hl, _⟩ := hg.tuple_
          have hvu : vs[i]? = some u := by
            simp only [hvs, Instr.extract] at hr
            cases hvi : vs[i]? with
            | none => simp [hvi, stuck] at hr
            | some u' => simp [hvi] at hr; rw [hr]
          have hroom := hI.rooms t i
          have hslot : s.slot t = .tuple cs := hx
          have hval : a.tmps.getD t undef = .tuple vs.toArray := hvs
          rw [hslot, hval] at hroom
          simp only [comp, dcomp, hd0, List.getElem?_toArray, hvu] at hroom
          cases hri : (s.room t)[i]? with
          | none =>
            rw [hri] at hroom
            have : s.taken (stake E ⟨dst, .extract (.tmp t) i, ty, pos, after, guard⟩) = [] := by simp [stake, St.taken, hri]
            rw [this] at hK
            exact wp_same hI hin (exec_v hr) hd hK
          | some rm =>
            rw [hri] at hroom
            have hstk : stake E ⟨dst, .extract (.tmp t) i, ty, pos, after, guard⟩ = some (t, some i) := rfl
            have : s.taken (stake E ⟨dst, .extract (.tmp t) i, ty, pos, after, guard⟩) = [rm] := by simp [stake, St.taken, hri]
            rw [this] at hK
            rw [hstk] at hK
            refine wp_value hI hin (exec_v hr) (Ext.refl _ _ _) hI.lt (fun b o h => .inl h) hd (ncl := fun j => if j = 0 then cls t i else none) ?_ ?_ ?_ hK
            · intro j
              cases j with
              | zero =>
                simp only [List.getElem?_cons_zero, if_true]
                cases rm with
                | no => exact hroom
                | own e =>
                  obtain ⟨u', es, h1, h2, h3⟩ := hroom
                  injection h1 with h1
                  injection h2 with h2
                  subst h1 h2
                  exact ⟨u, es, comp_zero_list hd.list_, rfl, h3⟩
                | full =>
                  obtain ⟨h1, es, a', h2, h3⟩ := hroom
                  injection h2 with h2
                  injection h3 with h3
                  subst h2 h3
                  exact ⟨h1, es, a', rfl, rfl⟩
              | succ j => simp [RoomAt]
            · intro j g hg
              split at hg
              · exact ⟨(hI.loc t i g hg).1, .inr hg⟩
              · cases hg
            · intro j j' g hg hg'
              split at hg
              · split at hg'
                · omega
                · cases hg'
              · cases hg
        | const v =>
          exact wp_same hI hin (exec_v hr) hd hK
        | global g => exact wp_same hI hin (exec_v hr) hd hK
        | func f => exact wp_same hI hin (exec_v hr) hd hK
      · cases hv
    · cases hv
  | build t ps =>
    simp only [sval] at hv
    obtain ⟨hv1, rfl⟩ := ok_some hv
    obtain ⟨p1, p2⟩ := pairs_den hI ps
    obtain ⟨u, hr, hd⟩ := run_build_ (P := P) p1 p2 hv1
    exact wp_same hI hin (exec_v hr) hd hK
  | buildSlice t m ps =>
    simp only [sval] at hv
    obtain ⟨d', hd', hv⟩ := Option.map_eq_some_iff.1 hv
    injection hv with hv1 hv2
    subst hv1 hv2
    obtain ⟨p1, p2⟩ := pairs_den hI ps
    obtain ⟨a', F', w', es, rfl, rfl, hr, hE, hlt, hnew, hd⟩ := run_buildSlice_ (P := P) hI.lt p1 p2 hd'
    refine wp_value hI hin (exec_v hr) (hE.weaken fun b _ h => h.elim) hlt (fun b o h => (hnew b o h).imp id .inl) (.pure _ _ hd) (ncl := fun _ => none) ?_ (fun i g h => by cases h) (fun i i' g h => by cases h) hK
    intro i
    cases i with
    | zero => exact ⟨rfl, es, a', rfl, rfl⟩
    | succ i => simp [RoomAt]
  | call cc =>
    obtain ⟨callee, args, ats⟩ := cc
    simp only [sval] at hv
    obtain ⟨m1, m2⟩ := map_den hI args.toList
    have harr : args.map a.eval = (args.toList.map a.eval).toArray := by apply Array.ext'; simp
    have hbu : ∀ (b : Builtin) (u : Value) (w' : World), (builtin b ats ty (args.map fun | .const _ => true | _ => false) (args.map a.eval)).run P w = .ok (.value u) w' → (execOp a.eval ⟨dst, .call ⟨.builtin b, args, ats⟩, ty, pos, after, guard⟩).run P w = .ok (.value u) w' := by
      intro b u w' h
      simp only [execOp, resolve, Sem.run_bind, Sem.run_pure, Result.andThen_ok, invoke]
      exact h
    split at hv
    · -- append
      split at hv
      · rename_i x y hargs
        obtain ⟨⟨d', e⟩, hde, hv⟩ := Option.map_eq_some_iff.1 hv
        injection hv with hv1 hv2
        subst hv1 hv2
        have hargs' : args = #[x, y] := by apply Array.ext'; exact hargs
        subst hargs'
        have key : ∀ {tk : Option (Tmp × Option Nat)} {cl : Option Nat}, stake E ⟨dst, .call ⟨.builtin .append, #[x, y], ats⟩, ty, pos, after, guard⟩ = tk → (∀ es, get s.slot x = .list es → Own P F w e (a.eval x) es.length cl) → (∀ g, cl = some g → took cls tk g) →
            ∀ {r : List Room}, dappend P ats (get s.slot x) (get s.slot y) r = some (d', e) → Oper.wp P ⟨dst, .call ⟨.builtin .append, #[x, y], ats⟩, ty, pos, after, guard⟩ a w K Q := by
          intro tk cl htk hown hcl r hde
          rw [htk] at hK
          obtain ⟨v', w', F', cl', es, rfl, hr, hE, hlt, hd, hO, hncl, hnew⟩ := run_append_ (P := P) (ty := ty) hI.lt (G x) (G y) hown hde
          refine wp_value hI hin (hbu .append v' w' ?_) (hE.weaken fun b _ hb => hcl b hb) hlt (fun b o h => by
            rcases hnew b o h with h | h | h
            · exact .inl h
            · exact .inr (.inl h)
            · exact .inr (.inr (hcl b h))) (.pure _ _ hd) (ncl := fun j => if j = 0 then cl' else none) ?_ ?_ ?_ hK
          · simp only [builtin]
            have : (#[x, y] : Array Operand).map a.eval = #[a.eval x, a.eval y] := by simp
            rw [this]
            exact exec_v hr
          · intro j
            cases j with
            | zero => exact ⟨v', es, comp_zero_list hd, rfl, hO⟩
            | succ j => simp [RoomAt]
          · intro j g hg
            split at hg
            · subst hg
              rcases hncl g rfl with h | h
              · refine ⟨?_, .inr (hcl g h)⟩
                obtain ⟨j', i', h'⟩ := took_loc (hcl g h)
                exact Nat.lt_of_lt_of_le (hI.loc _ _ _ h').1 hE.size
              · obtain ⟨_, _, _, _, h2, _⟩ := hO
                exact ⟨lt_of_heap h2, .inl h⟩
            · cases hg
          · intro j j' g hg hg'
            split at hg
            · split at hg'
              · omega
              · cases hg'
            · cases hg
        have hroomEq : ∀ {r : List Room}, dappend P ats (get s.slot x) (get s.slot y) r = some (d', e) → r = [.full] ∨ r = [.own e] := by
          intro r hde
          unfold dappend at hde
          split at hde
          · split at hde
            · split at hde
              · split at hde
                · split at hde
                  · rename_i hc
                    injection hde with hde
                    injection hde with _ hde
                    subst hde
                    exact hc.2.2.2.2
                  · cases hde
                · cases hde
              · cases hde
            · cases hde
          · cases hde
        cases x with
        | tmp t =>
          refine key (tk := some (t, none)) (cl := cls t 0) rfl (fun es hes => ?_) (fun g hg => ⟨0, hg⟩) hde
          have hg := G (.tmp t)
          rw [hes] at hg
          exact own_of_rooms (hI.rooms t) (hroomEq hde) hes hg.list_.slice_
        | const v =>
          refine key (tk := none) (cl := none) rfl (fun es hes => ?_) (fun g hg => by cases hg) hde
          have hg := G (.const v)
          rw [hes] at hg
          exact own_of_rooms (croom_ok (P := P) (F := F) (w := w) (s := s) (a := a) (.const v)) (hroomEq hde) hes hg.list_.slice_
        | global g =>
          have := hroomEq hde
          simp [croom] at this
        | func f =>
          have := hroomEq hde
          simp [croom] at this
      · cases hv
    · -- len
      split at hv
      · rename_i x hargs
        obtain ⟨hv1, rfl⟩ := ok_some hv
        have hargs' : args = #[x] := by apply Array.ext'; exact hargs
        subst hargs'
        obtain ⟨u, hr, hd⟩ := run_len (P := P) (ty := ty) (G x) hv1
        refine wp_same hI hin (hbu .len u w ?_) hd hK
        simp only [builtin]
        have : (#[x] : Array Operand).map a.eval = #[a.eval x] := by simp
        rw [this]
        exact exec_v hr
      · cases hv
    · obtain ⟨hv1, rfl⟩ := ok_some hv
      obtain ⟨u, hr, hd⟩ := run_minmax (P := P) (ts := ats) (ty := ty) (mx := false) m1 m2 hv1
      refine wp_same hI hin (hbu .min u w ?_) hd hK
      simp only [builtin]
      rw [harr]
      exact exec_v hr
    · obtain ⟨hv1, rfl⟩ := ok_some hv
      obtain ⟨u, hr, hd⟩ := run_minmax (P := P) (ts := ats) (ty := ty) (mx := true) m1 m2 hv1
      refine wp_same hI hin (hbu .max u w ?_) hd hK
      simp only [builtin]
      rw [harr]
      exact exec_v hr
    · rename_i f
      split at hv
      · rename_i g first captured hf
        split at hv
        · rename_i hpure
          have hcal := plainR_spec hv
          have hgf := G f
          rw [hf] at hgf
          obtain ⟨fs, cs, hfv, l1, l2, d1, d2⟩ := hgf.func_
          obtain ⟨hfn, hcalls⟩ := hcall g _ _ _ _ _ hcal
          have hlen : (fs ++ args.toList.map a.eval ++ cs).length = (first ++ args.toList.map (get s.slot) ++ captured).length := by simp [l1, l2]
          have hden : ∀ (i : Nat) (v : Value) (x : D), (fs ++ args.toList.map a.eval ++ cs)[i]? = some v → (first ++ args.toList.map (get s.slot) ++ captured)[i]? = some x → Den s.ctr ν F w v x := by
            intro i v x hv hx
            by_cases h1 : i < (fs ++ args.toList.map a.eval).length
            · rw [List.getElem?_append_left h1] at hv
              rw [List.getElem?_append_left (by simp at h1 ⊢; omega)] at hx
              by_cases h2 : i < fs.length
              · rw [List.getElem?_append_left h2] at hv
                rw [List.getElem?_append_left (by omega)] at hx
                exact d1 _ _ _ hv hx
              · rw [List.getElem?_append_right (by omega)] at hv hx
                rw [← l1] at hx
                exact m2 _ _ _ hv hx
            · have e1 : (first ++ args.toList.map (get s.slot)).length = (fs ++ args.toList.map a.eval).length := by simp [l1]
              rw [List.getElem?_append_right (by omega)] at hv hx
              rw [e1] at hx
              exact d2 _ _ _ hv hx
          have hC := hcalls (fs ++ args.toList.map a.eval ++ cs) w F (fun _ => 0) hlen (fun i v x hv hx => .pure _ _ ((hden i v x hv hx).pureB_ (by
            rw [List.all_eq_true] at hpure
            exact hpure x (List.mem_of_getElem? hx)))) (fun i bx h => by simp at h) (fun i j h => by simp at h) hI.lt
          have hexec : (execOp a.eval ⟨dst, .call ⟨.value f, args, ats⟩, ty, pos, after, guard⟩).run P w = .ok (.enter g (fs ++ args.toList.map a.eval ++ cs).toArray) w := by
            simp only [execOp, resolve, hfv, Deferred.ofValue, Sem.run_bind, Sem.run_pure, Result.andThen_ok]
            rw [run_invoke_func hP hfn]
            congr 2
            apply Array.ext'
            simp
          unfold Oper.wp
          rw [hexec, Oper.upon_enter]
          refine (hC hI.gok).mono ?_
          rintro e w' ⟨v, F', ncl, rfl, hE, hlt, hnew, hval, hn1, hn2, _⟩
          obtain ⟨_, hd, hr⟩ := hval.resolve_right (fun h => by simp at h)
          have hE' : Ext (took cls (stake E ⟨dst, .call ⟨.value f, args, ats⟩, ty, pos, after, guard⟩)) F w F' w' := hE.weaken fun b _ ⟨i, hi, _⟩ => by simp at hi
          exact hK _ _ ⟨F', inv_value hI hin hE' hlt (fun b o h => (hnew b o h).imp id .inl) (hd _ _) hr (fun i g h => ⟨(hn1 i g h).2, .inl (hn1 i g h).1⟩) hn2⟩
        · cases hv
      · cases hv
    · cases hv
  | _ => simp [sval] at hv
end
end Go.Av
