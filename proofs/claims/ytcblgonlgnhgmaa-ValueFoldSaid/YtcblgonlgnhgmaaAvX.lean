/- Regions that draw their order: whatever order is picked, the evaluator's one. Over any program. -/
import Derived.Test.YtcblgonlgnhgmaaAvF
set_option linter.unusedVariables false
set_option linter.unusedSimpArgs false
set_option linter.unusedSectionVars false
namespace Go.Av
open Go.RowKit
variable [Gs]

theorem get_tmp (f : Nat → D) (k : Tmp) : get f (.tmp k) = f k := rfl
def St.eff (s : St) (tk : Option (Tmp × Option Nat)) (dst : Option Tmp) (d : D) (r : List Room) : St := (s.demote tk).put dst d r
/-- What a step that turns no variable does: which right it takes, which value it yields. -/
def dval (P : Program) (call : Call) (n : Nat) (E : List Tmp) (ops : List Oper) (o : Oper) (s : St) : Option (Option (Tmp × Option Nat) × D × List Room) :=
  if inB n o then
    match dwanted ops s o with
    | none => none
    | some false => some (none, .tuple [], [])
    | some true => match o.op with
      | .alloc _ | .box _ _ | .store _ _ _ => none
      | .load _ _ => if loadsOwn (allocKey ops) s.slot o then none else (sval P call s.slot s.box (s.taken (stake E o)) o).map fun x => (stake E o, x.1, x.2)
      | .call c => (match (c.args.toList.map (get s.slot)) with
        | .ptr _ _ _ :: _ => none
        | _ => (sval P call s.slot s.box (s.taken (stake E o)) o).map fun x => (stake E o, x.1, x.2))
      | _ => (sval P call s.slot s.box (s.taken (stake E o)) o).map fun x => (stake E o, x.1, x.2)
  else none
/-- A variable is made. -/
def locA (k : Nat) (z : List D) (s : St) : St := { s.setBox k (some ⟨s.ctr, z⟩) with ctr := s.ctr + 1 }.put (some k) (.ptr k s.ctr 0) []
section
variable {P : Program} {n : Nat} {call : Call} {E : List Tmp} {ops : List Oper} {o : Oper} {s s' : St}

theorem stepS_val : stepS P call E o s = ((sval P call s.slot s.box (s.taken (stake E o)) o).map fun x => (stake E o, x.1, x.2)).map fun x => s.eff x.1 o.dst x.2.1 x.2.2 := by
  unfold stepS
  cases sval P call s.slot s.box (s.taken (stake E o)) o <;> rfl
theorem stepD_val (hl : isLocal (allocKey ops) o = false) : stepD P call n E ops o s = (dval P call n E ops o s).map fun x => s.eff x.1 o.dst x.2.1 x.2.2 := by
  unfold stepD dval
  split
  · cases dwanted ops s o with
    | none => rfl
    | some b =>
      cases b with
      | false => simp only [hl, Bool.false_eq_true, if_false]; rfl
      | true =>
        simp only
        cases hop : o.op with
        | call c =>
          simp only
          generalize c.args.toList.map (get s.slot) = l
          cases l with
          | nil => exact stepS_val
          | cons x t => cases x <;> first | rfl | exact stepS_val
        | load t a =>
          simp only
          split
          · rfl
          · exact stepS_val
        | alloc _ => simp [isLocal, hop] at hl
        | box _ _ => rfl
        | store t a x =>
          cases a with
          | tmp k =>
            simp only [isLocal, hop, beq_eq_false_iff_ne] at hl
            simp only
            rw [if_neg (fun h => hl h.1)]
            rfl
          | _ => rfl
        | _ => exact stepS_val
  · rfl
theorem stepD_step (h : stepD P call n E ops o s = some s') : step P call n E ops o s = some s' := by
  unfold stepD at h
  unfold step
  split at h
  · rename_i hin
    rw [if_pos hin]
    cases hw : dwanted ops s o with
    | none => rw [hw] at h; cases h
    | some b =>
      rw [hw] at h
      cases b with
      | false =>
        simp only at h ⊢
        split at h
        · cases h
        · exact h
      | true =>
        simp only at h ⊢
        cases hop : o.op with
        | alloc _ =>
          simp only [hop] at h ⊢
          split at h
          · exact h
          · cases h
        | box _ _ => simp [hop] at h
        | store t a x =>
          cases a with
          | tmp k =>
            simp only [hop] at h ⊢
            split at h
            · exact h
            · cases h
          | _ => simp [hop] at h
        | load t a =>
          simp only [hop] at h ⊢
          split at h
          · cases h
          · exact h
        | call c =>
          simp only [hop] at h ⊢
          generalize c.args.toList.map (get s.slot) = l at h ⊢
          cases l with
          | nil =>
            simp only at h ⊢
            rw [h]
            rfl
          | cons x t => cases x <;> simp only at h ⊢ <;> first | cases h; done | (rw [h]; rfl)
        | _ => simp only [hop] at h ⊢; exact h
  · cases h
/-- What a step on the region's own variable does. -/
inductive Lv where
  | made (k : Nat) (z : List D)
  | put (k : Nat) (b : Bx)
def Lv.app : Lv → St → St
  | .made k z, s => locA k z s
  | .put k b, s => s.setBox k (some b)
def Lv.key : Lv → Nat
  | .made k _ => k
  | .put k _ => k
def lval (P : Program) (o : Oper) (s : St) : Option Lv :=
  match o.op with
  | .alloc t => (match o.dst, zeroOf P t with
    | some k, some z => if z.all leaf = true ∧ k < 1000000 then some (.made k z) else none
    | _, _ => none)
  | .store t (.tmp k) x => (match s.slot k, sizeT P t with
    | .ptr _ g off, some n => (match s.box k with
      | some bx => if bx.gen = g ∧ (dcells (get s.slot x)).length = n ∧ off + n ≤ bx.cells.length ∧ pureB (get s.slot x) = true then
          some (.put k ⟨g, bx.cells.take off ++ dcells (get s.slot x) ++ bx.cells.drop (off + n)⟩) else none
      | none => none)
    | _, _ => none)
  | _ => none
theorem stepD_local (hl : isLocal (allocKey ops) o = true) (h : stepD P call n E ops o s = some s') : ∃ v, lval P o s = some v ∧ s' = v.app s ∧ allocKey ops = some v.key ∧ inB n o = true ∧ dwanted ops s o = some true ∧
    ((∃ t, o.op = .alloc t ∧ o.dst = some v.key) ∨ (∃ t x, o.op = .store t (.tmp v.key) x ∧ o.dst = none ∧ ptrAt s.slot v.key = true)) := by
  unfold stepD at h
  split at h
  · rename_i hin
    split at h
    · cases h
    · cases h
    · rename_i hw
      unfold isLocal at hl
      cases hop : o.op with
      | alloc t =>
        simp only [hop] at h
        split at h
        · rename_i hk
          unfold stepBox at h
          simp only [hop] at h
          unfold lval
          simp only [hop]
          split at h
          · rename_i k z hd hz
            split at h
            · rename_i hc
              injection h with h
              subst h
              rw [hd, hz]
              simp only
              rw [if_pos hc]
              exact ⟨_, rfl, rfl, by rw [hk, hd]; rfl, hin, hw, .inl ⟨t, rfl, rfl⟩⟩
            · cases h
          · cases h
        · cases h
      | store t a x =>
        cases a with
        | tmp k =>
          simp only [hop] at h
          split at h
          · rename_i hk
            obtain ⟨hk1, hk2, hk3⟩ := hk
            have hpt := hk3
            unfold ptrAt at hk3
            unfold stepBox at h
            simp only [hop, get_tmp] at h
            unfold lval
            simp only [hop]
            split at h
            · rename_i k' g off m hs hm
              rw [hs] at hk3
              have hkk : k' = k := by simpa using hk3
              subst hkk
              rw [hs, hm]
              simp only
              split at h
              · rename_i bx hb
                rw [hb]
                simp only
                split at h
                · rename_i hc
                  injection h with h
                  subst h
                  rw [if_pos hc]
                  exact ⟨_, rfl, by rw [hk2]; rfl, hk1, hin, hw, .inr ⟨t, x, rfl, hk2, hpt⟩⟩
                · cases h
              · cases h
            · cases h
          · cases h
        | _ => simp [hop] at h
      | _ => simp [hop] at hl
  · cases h
theorem stepD_of_local {v : Lv} (hv : lval P o s = some v) (hk : allocKey ops = some v.key) (hin : inB n o = true) (hw : dwanted ops s o = some true)
    (ho : (∃ t, o.op = .alloc t ∧ o.dst = some v.key) ∨ (∃ t x, o.op = .store t (.tmp v.key) x ∧ o.dst = none ∧ ptrAt s.slot v.key = true)) : stepD P call n E ops o s = some (v.app s) := by
  unfold stepD
  rw [if_pos hin, hw]
  simp only
  rcases ho with ⟨t, hop, hd⟩ | ⟨t, x, hop, hd, hp⟩
  · simp only [hop]
    rw [if_pos (by rw [hk, hd])]
    unfold lval at hv
    simp only [hop] at hv
    unfold stepBox
    simp only [hop]
    rw [hd] at hv ⊢
    cases hz : zeroOf P t with
    | none => rw [hz] at hv; cases hv
    | some z =>
      rw [hz] at hv
      simp only at hv ⊢
      split at hv
      · rename_i hc
        rw [if_pos hc]
        injection hv with hv
        cases v with
        | made k z0 =>
          injection hv with h1 h2
          subst h2
          rfl
        | put k b => cases hv
      · cases hv
  · simp only [hop]
    rw [if_pos ⟨hk, hd, hp⟩]
    unfold lval at hv
    simp only [hop] at hv
    unfold stepBox
    simp only [hop, get_tmp]
    unfold ptrAt at hp
    cases hs : s.slot v.key with
    | ptr k' g off =>
      rw [hs] at hp hv
      have hkk : k' = v.key := by simpa using hp
      cases hm : sizeT P t with
      | none => rw [hm] at hv; cases hv
      | some m =>
        rw [hm] at hv
        simp only at hv ⊢
        rw [hkk]
        cases hb : s.box v.key with
        | none => rw [hb] at hv; cases hv
        | some bx =>
          rw [hb] at hv
          simp only at hv ⊢
          split at hv
          · rename_i hc
            rw [if_pos hc, hd]
            injection hv with hv
            cases v with
            | made k z0 => cases hv
            | put k b =>
              injection hv with h1 h2
              rw [← h2]
              rfl
          · cases hv
    | _ => rw [hs] at hp; cases hp

theorem get_congr {f g : Nat → D} {x : Operand} (h : ∀ t, x = .tmp t → f t = g t) : get f x = get g x := by
  cases x with
  | tmp t => exact h t rfl
  | _ => rfl
theorem map_get_congr {f g : Nat → D} {xs : List Operand} (h : ∀ x ∈ xs, get f x = get g x) : xs.map (get f) = xs.map (get g) := List.map_congr_left h
theorem sval_congr {f g : Nat → D} {box box' : Nat → Option Bx} {rm : List Room} (h : ∀ x ∈ o.op.operands, get f x = get g x) (hb : ∀ t a k g' off, o.op = .load t a → get f a = .ptr k g' off → box k = box' k) : sval P call f box rm o = sval P call g box' rm o := by
  obtain ⟨dst, op, ty, pos, after, guard⟩ := o
  have pairs : ∀ ps : Array (Nat × Operand), (∀ x ∈ (ps.toList.map (·.2)).toArray, get f x = get g x) → (ps.toList.map fun p => (p.1, get f p.2)) = ps.toList.map fun p => (p.1, get g p.2) := fun ps hp =>
    List.map_congr_left fun p hm => by rw [hp p.2 (by simp; exact ⟨p.1, by simpa using hm⟩)]
  cases op <;> simp only [Op.operands] at h <;> simp only [sval]
  case build t ps => rw [pairs ps h]
  case buildSlice t m ps => rw [pairs ps h]
  case makeFunc fn first captured =>
    rw [map_get_congr (xs := first.toList) fun x hx => h x (by simp; exact .inl (by simpa using hx)), map_get_congr (xs := captured.toList) fun x hx => h x (by simp; exact .inr (by simpa using hx))]
  case call c =>
    obtain ⟨callee, args, ats⟩ := c
    have ha : args.toList.map (get f) = args.toList.map (get g) := map_get_congr fun x hx => h x (by simp [Call.operands]; exact .inr (by simpa using hx))
    cases callee with
    | value x =>
      have hx : get f x = get g x := h x (by simp [Call.operands])
      simp only [hx, ha]
    | invoke r m => rfl
    | builtin b =>
      cases b <;> simp only [ha]
      case append =>
        split
        · rename_i x y hargs
          have h1 : get f x = get g x := h x (by simp [Call.operands]; rw [← Array.mem_toList_iff, hargs]; simp)
          have h2 : get f y = get g y := h y (by simp [Call.operands]; rw [← Array.mem_toList_iff, hargs]; simp)
          rw [h1, h2]
        · rfl
      case len =>
        split
        · rename_i x hargs
          have h1 : get f x = get g x := h x (by simp [Call.operands]; rw [← Array.mem_toList_iff, hargs]; simp)
          rw [h1]
        · rfl
  case load t a =>
    have ha : get f a = get g a := h a (by simp)
    rw [← ha]
    cases hfa : get f a with
    | ptr k g' off => simp only [hb t a k g' off rfl hfa]
    | _ => rfl
  case slice t x lo hi mx => cases lo <;> cases hi <;> cases mx <;> simp_all
  all_goals first | rfl | (simp_all; done)

theorem mem_looks {x : Operand} {t : Tmp} (hx : x ∈ o.op.operands) (ht : x = .tmp t) : t ∈ looks ops o := by
  unfold looks
  refine List.mem_append_left _ (List.mem_filterMap.2 ⟨x, by simpa using hx, ?_⟩)
  rw [ht]
theorem stake_looks {t : Tmp} {i : Option Nat} (h : stake E o = some (t, i)) : t ∈ looks ops o := by
  obtain ⟨dst, op, ty, pos, after, guard⟩ := o
  unfold stake at h
  split at h
  · rename_i t' hop
    injection h with h
    injection h with h1 h2
    subst h1
    exact mem_looks (x := .tmp t') (by simp only at hop; subst hop; simp [Op.operands]) rfl
  · rename_i t' hop
    split at h
    · injection h with h
      injection h with h1 h2
      subst h1
      exact mem_looks (x := .tmp t') (by simp only at hop; subst hop; simp [Op.operands]) rfl
    · cases h
  · rename_i t' i' hop
    injection h with h
    injection h with h1 h2
    subst h1
    exact mem_looks (x := .tmp t') (by simp only at hop; subst hop; simp [Op.operands]) rfl
  · rename_i args ats hop
    split at h
    · rename_i t' ht'
      injection h with h
      injection h with h1 h2
      subst h1
      exact mem_looks (x := .tmp t') (by simp only at hop; subst hop; simp [Op.operands, Call.operands]; exact Array.mem_of_getElem? ht') rfl
    · cases h
  · cases h
/-- What a step looks at. -/
structure Agree (ops : List Oper) (E : List Tmp) (o : Oper) (s s' : St) : Prop where
  slot : ∀ t ∈ looks ops o, s.slot t = s'.slot t
  box : ∀ k, allocKey ops ≠ some k → s.box k = s'.box k
  room : ∀ t i, stake E o = some (t, i) → s.room t = s'.room t
theorem Agree.get_ (h : Agree ops E o s s') : ∀ x ∈ o.op.operands, get s.slot x = get s'.slot x := fun x hx => get_congr fun t ht => h.slot t (mem_looks hx ht)
theorem Agree.wanted (h : Agree ops E o s s') : dwanted ops s o = dwanted ops s' o := by
  unfold dwanted
  cases hgd : o.guard with
  | none => rfl
  | some gw =>
    obtain ⟨j, want⟩ := gw
    simp only
    cases ht : (ops[j]?).bind (·.dst) with
    | none => rfl
    | some t =>
      simp only
      rw [h.slot t (by unfold looks; rw [hgd]; refine List.mem_append_right _ ?_; simp only [ht]; simp)]
theorem dval_congr (h : Agree ops E o s s') : dval P call n E ops o s = dval P call n E ops o s' := by
  have hg := h.get_
  have ht : s.taken (stake E o) = s'.taken (stake E o) := by
    unfold St.taken
    split
    · rfl
    · rename_i t hst; exact h.room t none hst
    · rename_i t i hst; rw [h.room t (some i) hst]
  have hargs : ∀ c, o.op = .call c → c.args.toList.map (get s.slot) = c.args.toList.map (get s'.slot) := fun c hc => map_get_congr fun x hx => hg x (by rw [hc]; simp [Op.operands, Call.operands]; exact .inr (by simpa using hx))
  have hlo : loadsOwn (allocKey ops) s.slot o = loadsOwn (allocKey ops) s'.slot o := by
    unfold loadsOwn
    cases hop : o.op with
    | load t a => simp only [hg a (by rw [hop]; simp [Op.operands])]
    | _ => rfl
  have hv : loadsOwn (allocKey ops) s.slot o = false → sval P call s.slot s.box (s.taken (stake E o)) o = sval P call s'.slot s'.box (s'.taken (stake E o)) o := fun hl => by
    rw [ht]
    refine sval_congr hg fun t a k g' off hop ha => h.box k fun hk => ?_
    unfold loadsOwn at hl
    simp only [hop, ha, hk, beq_self_eq_true] at hl
    cases hl
  have hv' : (∀ t a, o.op ≠ .load t a) → sval P call s.slot s.box (s.taken (stake E o)) o = sval P call s'.slot s'.box (s'.taken (stake E o)) o := fun hn => hv (by
    unfold loadsOwn
    cases hop : o.op with
    | load t a => exact absurd hop (hn t a)
    | _ => rfl)
  unfold dval
  rw [h.wanted, ← hlo]
  cases hop : o.op with
  | call c => simp only [hargs c hop, hv' (fun t a e => by rw [hop] at e; cases e)]
  | load t a =>
    simp only
    cases hl : loadsOwn (allocKey ops) s.slot o with
    | true => rfl
    | false => simp only [hv hl]
  | alloc _ => rfl
  | box _ _ => rfl
  | store _ _ _ => rfl
  | _ => simp only [hv' (fun t a e => by rw [hop] at e; cases e)]
/-- The region's own variable: what is asked of it hangs on what is looked at, and on it. -/
theorem lval_congr {v : Lv} (hv : lval P o s = some v) (ho : (∃ t, o.op = .alloc t ∧ o.dst = some v.key) ∨ (∃ t x, o.op = .store t (.tmp v.key) x ∧ o.dst = none ∧ ptrAt s.slot v.key = true)) (hs : ∀ t ∈ looks ops o, s.slot t = s'.slot t) (hb : s.box v.key = s'.box v.key) :
    lval P o s' = some v ∧ ((∃ t, o.op = .alloc t ∧ o.dst = some v.key) ∨ (∃ t x, o.op = .store t (.tmp v.key) x ∧ o.dst = none ∧ ptrAt s'.slot v.key = true)) := by
  rcases ho with ⟨t, hop, hd⟩ | ⟨t, x, hop, hd, hp⟩
  · refine ⟨?_, .inl ⟨t, hop, hd⟩⟩
    unfold lval at hv ⊢
    simp only [hop] at hv ⊢
    exact hv
  · have h1 : s.slot v.key = s'.slot v.key := hs v.key (mem_looks (x := .tmp v.key) (by rw [hop]; simp [Op.operands]) rfl)
    have h2 : get s.slot x = get s'.slot x := get_congr fun t' ht => hs t' (mem_looks (x := x) (by rw [hop]; simp [Op.operands]) ht)
    refine ⟨?_, .inr ⟨t, x, hop, hd, by unfold ptrAt at hp ⊢; rw [← h1]; exact hp⟩⟩
    unfold lval at hv ⊢
    simp only [hop] at hv ⊢
    rw [← h1, ← h2, ← hb]
    exact hv
theorem eff_slot {tk : Option (Tmp × Option Nat)} {dst : Option Tmp} {d : D} {r : List Room} {t : Tmp} (h : dst ≠ some t) : (s.eff tk dst d r).slot t = s.slot t := by
  unfold St.eff
  have e1 : (s.demote tk).slot = s.slot := by unfold St.demote; split <;> rfl
  cases dst with
  | none => rw [show ((s.demote tk).put none d r) = s.demote tk from rfl, e1]
  | some k =>
    simp only [St.put, upd]
    rw [if_neg (fun e => h (by rw [e])), e1]
theorem eff_box {tk : Option (Tmp × Option Nat)} {dst : Option Tmp} {d : D} {r : List Room} : (s.eff tk dst d r).box = s.box := by
  unfold St.eff St.demote
  cases dst <;> (split <;> rfl)
theorem eff_room {tk : Option (Tmp × Option Nat)} {dst : Option Tmp} {d : D} {r : List Room} {t : Tmp} (h : dst ≠ some t) (h' : ∀ i, tk ≠ some (t, i)) : (s.eff tk dst d r).room t = s.room t := by
  unfold St.eff
  have e1 : (s.demote tk).room t = s.room t := by
    unfold St.demote
    split
    · rfl
    · simp only [upd]; rw [if_neg (fun e => h' none (by rw [e]))]
    · rename_i k i; simp only [upd]; rw [if_neg (fun e => h' (some i) (by rw [e]))]
  cases dst with
  | none => exact e1
  | some k =>
    simp only [St.put, upd]
    rw [if_neg (fun e => h (by rw [e])), e1]
theorem upd_comm {α : Type} {f : Nat → α} {a b : Nat} {x y : α} (h : a ≠ b) : upd (upd f a x) b y = upd (upd f b y) a x := by
  funext j
  simp only [upd]
  by_cases h1 : j = b
  · rw [if_pos h1, if_neg (fun e => h (by rw [← e, h1])), if_pos h1]
  · rw [if_neg h1, if_neg h1]
theorem demote_put {tk : Option (Tmp × Option Nat)} {dst : Option Tmp} {d : D} {r : List Room} (h : ∀ t i, tk = some (t, i) → dst ≠ some t) : (s.put dst d r).demote tk = (s.demote tk).put dst d r := by
  cases dst with
  | none => rfl
  | some k =>
    match tk, h with
    | none, _ => rfl
    | some (t, none), h =>
      have hne : k ≠ t := fun e => h t none rfl (by rw [e])
      simp only [St.put, St.demote]
      rw [upd_comm hne]
    | some (t, some i), h =>
      have hne : k ≠ t := fun e => h t (some i) rfl (by rw [e])
      simp only [St.put, St.demote]
      rw [upd_comm hne]
      simp only [upd, if_neg (Ne.symm hne)]
theorem demote_demote {tk tk' : Option (Tmp × Option Nat)} (h : ∀ t i i', tk = some (t, i) → tk' ≠ some (t, i')) : (s.demote tk).demote tk' = (s.demote tk').demote tk := by
  match tk, tk', h with
  | none, _, _ => rfl
  | some (t, i), none, _ => rfl
  | some (t, i), some (t', i'), h =>
    have hne : t ≠ t' := fun e => h t i i' rfl (by rw [e])
    cases i <;> cases i' <;> simp only [St.demote] <;> rw [upd_comm hne] <;> simp only [upd, if_neg hne, if_neg (Ne.symm hne)]
theorem put_put {a b : Option Tmp} {d d' : D} {r r' : List Room} (h : ∀ t, a = some t → b ≠ some t) : (s.put a d r).put b d' r' = (s.put b d' r').put a d r := by
  cases a with
  | none => rfl
  | some x =>
    cases b with
    | none => rfl
    | some y =>
      have hne : x ≠ y := fun e => h x rfl (by rw [e])
      simp only [St.put]
      rw [upd_comm hne, upd_comm (f := s.room) hne]
theorem eff_eff {tk tk' : Option (Tmp × Option Nat)} {a b : Option Tmp} {d d' : D} {r r' : List Room} (h1 : ∀ t i, tk' = some (t, i) → a ≠ some t) (h2 : ∀ t i, tk = some (t, i) → b ≠ some t)
    (h3 : ∀ t i i', tk = some (t, i) → tk' ≠ some (t, i')) (h4 : ∀ t, a = some t → b ≠ some t) : (s.eff tk a d r).eff tk' b d' r' = (s.eff tk' b d' r').eff tk a d r := by
  unfold St.eff
  rw [demote_put h1, demote_put h2, put_put h4, demote_demote h3]
theorem optNe_spec {a b : Option Tmp} (h : optNe a b = true) : ∀ t, a = some t → b ≠ some t := by
  intro t ha hb
  rw [ha, hb] at h
  simp [optNe] at h
theorem dval_tk {tk : Option (Tmp × Option Nat)} {d : D} {r : List Room} (h : dval P call n E ops o s = some (tk, d, r)) : tk = none ∨ tk = stake E o := by
  have hm : ∀ {x : Option (D × List Room)}, (x.map fun x => (stake E o, x.1, x.2)) = some (tk, d, r) → tk = none ∨ tk = stake E o := by
    intro x hx
    obtain ⟨y, _, hy⟩ := Option.map_eq_some_iff.1 hx
    injection hy with hy
    exact .inr hy.symm
  unfold dval at h
  split at h
  · split at h
    · cases h
    · injection h with h
      injection h with h
      exact .inl h.symm
    · cases hop : o.op <;> simp only [hop] at h
      case alloc => cases h
      case box => cases h
      case store => cases h
      case call c =>
        split at h
        · cases h
        · exact hm h
      case load =>
        split at h
        · cases h
        · exact hm h
      all_goals exact hm h
  · cases h
theorem app_slot (v : Lv) {t : Tmp} (h : t ≠ v.key) : (v.app s).slot t = s.slot t := by
  cases v with
  | made k z => simp only [Lv.app, locA, St.put, upd]; rw [if_neg (show ¬ t = k from h)]; rfl
  | put k b => rfl
theorem app_box (v : Lv) {k : Nat} (h : k ≠ v.key) : (v.app s).box k = s.box k := by
  cases v with
  | made k' z => simp only [Lv.app, locA, St.put, St.setBox, upd]; rw [if_neg (show ¬ k = k' from h)]
  | put k' b => simp only [Lv.app, St.setBox, upd]; rw [if_neg (show ¬ k = k' from h)]
theorem app_room (v : Lv) {t : Tmp} (h : t ≠ v.key) : (v.app s).room t = s.room t := by
  cases v with
  | made k z => simp only [Lv.app, locA, St.put, upd]; rw [if_neg (show ¬ t = k from h)]; rfl
  | put k b => rfl
theorem app_put_slot {k : Nat} {b : Bx} {t : Tmp} : ((Lv.put k b).app s).slot t = s.slot t := rfl
theorem app_put_room {k : Nat} {b : Bx} : ((Lv.put k b).app s).room = s.room := rfl
/-- A plain step and one on the region's own variable change places. -/
theorem eff_app {tk : Option (Tmp × Option Nat)} {a : Option Tmp} {d : D} {r : List Room} {v : Lv} (h1 : ∀ k z, v = .made k z → a ≠ some k) (h2 : ∀ k z t i, v = .made k z → tk = some (t, i) → t ≠ k) :
    v.app (s.eff tk a d r) = (v.app s).eff tk a d r := by
  have ec : (s.eff tk a d r).ctr = s.ctr := by
    unfold St.eff St.demote
    cases a <;> (split <;> rfl)
  cases v with
  | put k b =>
    simp only [Lv.app, St.eff, St.demote]
    cases a <;> (split <;> rfl)
  | made k z =>
    have ha := h1 k z rfl
    have ht := fun t i => h2 k z t i rfl
    have e2 : ∀ s0 : St, locA k z s0 = ({ s0.setBox k (some ⟨s0.ctr, z⟩) with ctr := s0.ctr + 1 } : St).put (some k) (.ptr k s0.ctr 0) [] := fun _ => rfl
    show locA k z (s.eff tk a d r) = (locA k z s).eff tk a d r
    rw [e2, e2, ec]
    have e3 : ({ (s.eff tk a d r).setBox k (some ⟨s.ctr, z⟩) with ctr := s.ctr + 1 } : St) = ({ s.setBox k (some ⟨s.ctr, z⟩) with ctr := s.ctr + 1 } : St).eff tk a d r := by
      unfold St.eff St.demote
      cases a <;> (split <;> rfl)
    rw [e3]
    generalize ({ s.setBox k (some ⟨s.ctr, z⟩) with ctr := s.ctr + 1 } : St) = s1
    unfold St.eff
    rw [demote_put (s := s1) (fun t i h e => by injection e with e; exact ht t i h e.symm), put_put (s := s1.demote tk) (fun t h e => by injection e with e; subst e; exact ha h)]
/-- Two steps that may change places do. -/
theorem stepD_comm {x y : Oper} {s1 s2 : St} (hi : indep E ops x y = true) (h1 : stepD P call n E ops x s = some s1) (h2 : stepD P call n E ops y s1 = some s2) : ∃ s1', stepD P call n E ops y s = some s1' ∧ stepD P call n E ops x s1' = some s2 := by
  simp only [indep, Bool.and_eq_true] at hi
  obtain ⟨⟨⟨⟨i1, i2⟩, i3⟩, i4⟩, i5⟩ := hi
  have j1 : ∀ t ∈ looks ops y, x.dst ≠ some t := by
    intro t ht hd
    rw [hd] at i1
    simp at i1
    exact i1 ht
  have j2 : ∀ t ∈ looks ops x, y.dst ≠ some t := by
    intro t ht hd
    rw [hd] at i2
    simp at i2
    exact i2 ht
  have j3 := optNe_spec i3
  have j4 : ∀ t i i', stake E x = some (t, i) → stake E y ≠ some (t, i') := fun t i i' hx hy => optNe_spec i4 t (by rw [hx]; rfl) (by rw [hy]; rfl)
  cases hlx : isLocal (allocKey ops) x with
  | false =>
    rw [stepD_val hlx] at h1
    obtain ⟨⟨tk, d, r⟩, hv1, rfl⟩ := Option.map_eq_some_iff.1 h1
    have k1 : ∀ t i, tk = some (t, i) → stake E x = some (t, i) := fun t i h => by
      rcases dval_tk hv1 with h' | h'
      · rw [h'] at h; cases h
      · rw [← h']; exact h
    cases hly : isLocal (allocKey ops) y with
    | false =>
      rw [stepD_val hly] at h2
      obtain ⟨⟨tk', d', r'⟩, hv2, rfl⟩ := Option.map_eq_some_iff.1 h2
      have k2 : ∀ t i, tk' = some (t, i) → stake E y = some (t, i) := fun t i h => by
        rcases dval_tk hv2 with h' | h'
        · rw [h'] at h; cases h
        · rw [← h']; exact h
      have A1 : Agree ops E y (s.eff tk x.dst d r) s := ⟨fun t ht => eff_slot (j1 t ht), fun k _ => by rw [eff_box], fun t i hst => eff_room (j1 t (stake_looks hst)) fun i' h => j4 t i' i (k1 t i' h) hst⟩
      simp only at hv2
      rw [dval_congr A1] at hv2
      have A2 : Agree ops E x (s.eff tk' y.dst d' r') s := ⟨fun t ht => eff_slot (j2 t ht), fun k _ => by rw [eff_box], fun t i hst => eff_room (j2 t (stake_looks hst)) fun i' h => j4 t i i' hst (k2 t i' h)⟩
      refine ⟨s.eff tk' y.dst d' r', by rw [stepD_val hly, hv2]; rfl, ?_⟩
      rw [stepD_val hlx, dval_congr A2, hv1]
      simp only [Option.map_some]
      rw [eff_eff (fun t i h => j2 t (stake_looks (k1 t i h))) (fun t i h => j1 t (stake_looks (k2 t i h))) (fun t i i' h h' => j4 t i' i (k1 t i' h') (k2 t i h)) (fun t h h' => j3 t h' h)]
    | true =>
      obtain ⟨v, hv2, rfl, hk, hin, hw, ho⟩ := stepD_local hly h2
      have hslots : ∀ t ∈ looks ops y, (s.eff tk x.dst d r).slot t = s.slot t := fun t ht => eff_slot (j1 t ht)
      obtain ⟨hv2', ho'⟩ := lval_congr hv2 ho hslots (by rw [eff_box])
      have hw' : dwanted ops s y = some true := by
        rw [← hw]
        exact (Agree.wanted ⟨hslots, fun k _ => by rw [eff_box], fun t i hst => eff_room (j1 t (stake_looks hst)) fun i' h => j4 t i' i (k1 t i' h) hst⟩ : dwanted ops (s.eff tk x.dst d r) y = dwanted ops s y).symm
      refine ⟨v.app s, stepD_of_local hv2' hk hin hw' ho', ?_⟩
      have hdst : ∀ k z, v = .made k z → y.dst = some k := fun k z e => by
        rcases ho' with ⟨t, _, hd⟩ | ⟨t, x', hop, _, _⟩
        · rw [hd, e]; rfl
        · subst e
          unfold lval at hv2'
          simp only [hop] at hv2'
          split at hv2'
          · split at hv2'
            · split at hv2'
              · cases hv2'
              · cases hv2'
            · cases hv2'
          · cases hv2'
      have hsl : ∀ t ∈ looks ops x, (v.app s).slot t = s.slot t := fun t ht => by
        cases hvv : v with
        | put k b => rfl
        | made k z => exact app_slot (.made k z) fun e => j2 t ht (by rw [hdst k z hvv, e]; rfl)
      have A2 : Agree ops E x (v.app s) s := ⟨hsl, fun k hk' => app_box v fun e => hk' (by rw [hk, e]), fun t i hst => by
        cases hvv : v with
        | put k b => rfl
        | made k z => exact app_room (.made k z) fun e => j2 t (stake_looks hst) (by rw [hdst k z hvv, e]; rfl)⟩
      rw [stepD_val hlx, dval_congr A2, hv1]
      simp only [Option.map_some]
      rw [eff_app (fun k z e h => j3 k h (hdst k z e)) (fun k z t i e h h' => j2 t (stake_looks (k1 t i h)) (by rw [hdst k z e, h']))]
  | true =>
    have hly : isLocal (allocKey ops) y = false := by
      cases hly : isLocal (allocKey ops) y with
      | false => rfl
      | true => rw [hlx, hly] at i5; cases i5
    obtain ⟨v, hv1, rfl, hk, hin, hw, ho⟩ := stepD_local hlx h1
    have hdst : ∀ k z, v = .made k z → x.dst = some k := fun k z e => by
      rcases ho with ⟨t, _, hd⟩ | ⟨t, x', hop, _, _⟩
      · rw [hd, e]; rfl
      · subst e
        unfold lval at hv1
        simp only [hop] at hv1
        split at hv1
        · split at hv1
          · split at hv1
            · cases hv1
            · cases hv1
          · cases hv1
        · cases hv1
    rw [stepD_val hly] at h2
    obtain ⟨⟨tk, d, r⟩, hv2, rfl⟩ := Option.map_eq_some_iff.1 h2
    have k2 : ∀ t i, tk = some (t, i) → stake E y = some (t, i) := fun t i h => by
      rcases dval_tk hv2 with h' | h'
      · rw [h'] at h; cases h
      · rw [← h']; exact h
    have hsl : ∀ t ∈ looks ops y, (v.app s).slot t = s.slot t := fun t ht => by
      cases hvv : v with
      | put k b => rfl
      | made k z => exact app_slot (.made k z) fun e => j1 t ht (by rw [hdst k z hvv, e]; rfl)
    have A1 : Agree ops E y (v.app s) s := ⟨hsl, fun k hk' => app_box v fun e => hk' (by rw [hk, e]), fun t i hst => by
      cases hvv : v with
      | put k b => rfl
      | made k z => exact app_room (.made k z) fun e => j1 t (stake_looks hst) (by rw [hdst k z hvv, e]; rfl)⟩
    rw [dval_congr A1] at hv2
    refine ⟨s.eff tk y.dst d r, by rw [stepD_val hly, hv2]; rfl, ?_⟩
    have hslots : ∀ t ∈ looks ops x, s.slot t = (s.eff tk y.dst d r).slot t := fun t ht => (eff_slot (j2 t ht)).symm
    obtain ⟨hv1', ho'⟩ := lval_congr (s' := s.eff tk y.dst d r) hv1 ho hslots (by rw [eff_box])
    have hw' : dwanted ops (s.eff tk y.dst d r) x = some true := by
      rw [← hw]
      exact Agree.wanted (E := E) ⟨fun t ht => eff_slot (j2 t ht), fun k _ => by rw [eff_box], fun t i hst => eff_room (j2 t (stake_looks hst)) fun i' h => j4 t i i' hst (k2 t i' h)⟩
    rw [stepD_of_local hv1' hk hin hw' ho']
    rw [eff_app (fun k z e h => j3 k (hdst k z e) h) (fun k z t i e h h' => j1 t (stake_looks (k2 t i h)) (by rw [hdst k z e, h']))]
/-- The steps of some operations, by their numbers. -/
def runI (P : Program) (call : Call) (n : Nat) (E : List Tmp) (ops : List Oper) : List Nat → St → Option St
  | [], s => some s
  | i :: r, s => match ops[i]? with
    | none => none
    | some o => (stepD P call n E ops o s).bind (runI P call n E ops r)
theorem runI_append (l1 l2 : List Nat) (s : St) : runI P call n E ops (l1 ++ l2) s = (runI P call n E ops l1 s).bind (runI P call n E ops l2) := by
  induction l1 generalizing s with
  | nil => rfl
  | cons i l1 ih =>
    simp only [List.cons_append, runI]
    cases ops[i]? with
    | none => rfl
    | some o =>
      simp only
      cases stepD P call n E ops o s with
      | none => rfl
      | some s1 => exact ih s1
/-- An operation is moved ahead of those that it may change places with. -/
theorem runI_first {j : Nat} {oj : Oper} (hj : ops[j]? = some oj) : ∀ (l1 : List Nat) (s sf : St), (∀ i ∈ l1, ∀ oi, ops[i]? = some oi → indep E ops oi oj = true) → runI P call n E ops (l1 ++ [j]) s = some sf →
    ∃ s1, stepD P call n E ops oj s = some s1 ∧ runI P call n E ops l1 s1 = some sf
  | [], s, sf, _, h => by
    simp only [List.nil_append, runI, hj] at h
    obtain ⟨s1, h1, h2⟩ := Option.bind_eq_some_iff.1 h
    have h2 : some s1 = some sf := h2
    injection h2 with h2
    subst h2
    exact ⟨s1, h1, rfl⟩
  | i :: l1, s, sf, hi, h => by
    simp only [List.cons_append, runI] at h
    cases ho : ops[i]? with
    | none => rw [ho] at h; cases h
    | some oi =>
      rw [ho] at h
      obtain ⟨s1, h1, h2⟩ := Option.bind_eq_some_iff.1 h
      obtain ⟨s2, h3, h4⟩ := runI_first hj l1 s1 sf (fun k hk => hi k (by simp [hk])) h2
      obtain ⟨s1', h5, h6⟩ := stepD_comm (hi i (by simp) oi ho) h1 h3
      refine ⟨s1', h5, ?_⟩
      simp only [runI, ho]
      rw [h6]
      exact h4
theorem runD_range : ∀ (k m : Nat) (s : St), (∀ j, j < m → (ops.drop k)[j]? = ops[k + j]?) → k + m ≤ ops.length → runD P call n E ops ((ops.drop k).take m) s = runI P call n E ops (List.range' k m) s
  | k, 0, s, _, _ => by simp [runD, runI]
  | k, m + 1, s, h, hl => by
    have hk : k < ops.length := by omega
    have e : ops.drop k = ops[k] :: ops.drop (k + 1) := List.drop_eq_getElem_cons hk
    rw [e, List.take_succ_cons, List.range'_succ]
    simp only [runD, runI, List.getElem?_eq_getElem hk]
    congr 1
    funext s1
    exact runD_range (k + 1) m s1 (fun j _ => by rw [List.getElem?_drop]) (by omega)
end

section
variable {P : Program} {n : Nat} {S0 : Gv} {F0 : Nat → Nat → Prop} {w0 : World} {call : Call} {E : List Tmp}

/-- Every order: those that are left, in the order of the text, lead to 'sp'; then comes the last one, if there is one. -/
theorem any_sound (hP : Fine P) (hcall : CallOK P call) {ops : Array Oper} {Q : Exit → Act → World → Prop} {k : Nat} {sp sf : St} (hk : k = ops.size ∧ sf = sp ∨ (k + 1 = ops.size ∧ ∃ o, ops[k]? = some o ∧ step P call n E ops.toList o sp = some sf ∧ (∀ i, i < k → edge o i = true) ∧ ∀ e ∈ o.after, Region.binds .any e = true → e.on < k))
    (hedge : ∀ j, j < k → ∀ oj, ops[j]? = some oj → (∀ e ∈ oj.after, Region.binds .any e = true → e.on < j) ∧ ∀ i, i < j → ∀ oi, ops[i]? = some oi → edge oj i = true ∨ indep E ops.toList oi oj = true)
    (hQ : ∀ a' w', Rep P n S0 F0 w0 sf a' w' → Q .normal a' w') :
    ∀ (m : Nat) (rem : List Nat) (listed : Array Bool) (s : St) (a : Act) (w : World) (fuel : Nat), rem.length = m → rem.length + (if k = ops.size then 0 else 1) ≤ fuel → rem.Pairwise (· < ·) → (∀ j ∈ rem, j < k) → listed.size = ops.size →
      (∀ j, j < ops.size → (listed.getD j true = false ↔ (j ∈ rem ∨ (j = k ∧ k < ops.size)))) → Rep P n S0 F0 w0 s a w → runI P call n E ops.toList rem s = some sp → wpAny P .any ops Q fuel listed a w := by
  intro m
  induction m with
  | zero =>
    intro rem listed s a w fuel hm hfuel _ _ hls hL hR hrun
    have hrem : rem = [] := List.length_eq_zero_iff.1 hm
    subst hrem
    simp only [runI] at hrun
    injection hrun with hrun
    subst hrun
    rcases hk with ⟨hk, rfl⟩ | ⟨hk, o, ho, hst, hed, hbk⟩
    · refine wpAny_done ?_ (hQ a w hR) fuel
      cases hr : Region.ready .any ops listed with
      | nil => rfl
      | cons x xs =>
        have hx : x ∈ Region.ready .any ops listed := by rw [hr]; simp
        obtain ⟨h1, o, h2, _⟩ := mem_ready.1 hx
        have hlt : x < ops.size := (Array.getElem?_eq_some_iff.1 h2).1
        have := (hL x hlt).1 h1
        simp at this
        omega
    · have hkl : k < ops.size := by omega
      have hneq : ¬ k = ops.size := by omega
      rw [if_neg hneq] at hfuel
      obtain ⟨f', rfl⟩ : ∃ f', fuel = f' + 1 := ⟨fuel - 1, by simp at hfuel; omega⟩
      have hready : ∀ x, x ∈ Region.ready .any ops listed → x = k := by
        intro x hx
        obtain ⟨h1, o', h2, _⟩ := mem_ready.1 hx
        have hlt : x < ops.size := (Array.getElem?_eq_some_iff.1 h2).1
        have := (hL x hlt).1 h1
        simp at this
        exact this.1
      have hkr : k ∈ Region.ready .any ops listed := by
        rw [mem_ready]
        refine ⟨(hL k hkl).2 (.inr ⟨rfl, hkl⟩), o, ho, fun e he hb => ?_⟩
        have h1 := hbk e he hb
        cases hb' : listed.getD e.on true with
        | false =>
          have := (hL e.on (by omega)).1 hb'
          simp at this
          omega
        | true =>
          have : e.on < listed.size := by omega
          simp [this] at hb' ⊢
          exact hb'
      refine ⟨fun h0 => (by rw [h0] at hkr; cases hkr), fun x hx => ?_⟩
      have hxk := hready x hx
      subst hxk
      unfold wpOp
      simp only [ho]
      have hfin : ∀ a' w', Rep P n S0 F0 w0 sf a' w' → wpAny P .any ops Q f' (listed.setIfInBounds x true) a' w' := by
        intro a' w' hR'
        refine wpAny_done ?_ (hQ a' w' hR') f'
        cases hr : Region.ready .any ops (listed.setIfInBounds x true) with
        | nil => rfl
        | cons y ys =>
          have hy : y ∈ Region.ready .any ops (listed.setIfInBounds x true) := by rw [hr]; simp
          obtain ⟨h1, o', h2, _⟩ := mem_ready.1 hy
          have hlt : y < ops.size := (Array.getElem?_eq_some_iff.1 h2).1
          by_cases hyx : x = y
          · subst hyx
            simp [hls, hkl] at h1
          · rw [getD_set_ne true hyx] at h1
            have := (hL y hlt).1 h1
            simp at this
            omega
      have := step_sound (Q := Q) hP hcall hR hst (K := wpAny P .any ops Q f' (listed.setIfInBounds x true)) hfin
      split at this
      · rename_i hw; rw [if_pos hw]; exact .inl this
      · rename_i hw; rw [if_neg hw]; exact this
  | succ m ih =>
    intro rem listed s a w fuel hm hfuel hsorted hlt hls hL hR hrun
    have hksz : k ≤ ops.size := by rcases hk with ⟨h, _⟩ | ⟨h, _⟩ <;> omega
    obtain ⟨f', rfl⟩ : ∃ f', fuel = f' + 1 := ⟨fuel - 1, by omega⟩
    obtain ⟨i0, r0, hrem0⟩ : ∃ i0 r0, rem = i0 :: r0 := by
      cases rem with
      | nil => simp at hm
      | cons x xs => exact ⟨x, xs, rfl⟩
    have listedOf : ∀ j, j < k → j ∉ rem → listed.getD j false = true := by
      intro j hj hn
      have hjs : j < ops.size := by omega
      cases hb : listed.getD j true with
      | false =>
        have := (hL j hjs).1 hb
        rcases this with h | h
        · exact absurd h hn
        · omega
      | true =>
        have : j < listed.size := by omega
        simp [this] at hb ⊢
        exact hb
    have hi0 : i0 ∈ Region.ready .any ops listed := by
      have h1 : i0 < k := hlt i0 (by rw [hrem0]; simp)
      have h2 : i0 < ops.size := by omega
      rw [mem_ready]
      refine ⟨(hL i0 h2).2 (.inl (by rw [hrem0]; simp)), ops[i0], Array.getElem?_eq_getElem h2, fun e he hb => ?_⟩
      have h3 := (hedge i0 h1 _ (Array.getElem?_eq_getElem h2)).1 e he hb
      refine listedOf e.on (by omega) fun hmem => ?_
      rw [hrem0] at hmem hsorted
      rcases List.mem_cons.1 hmem with h | h
      · omega
      · have := (List.pairwise_cons.1 hsorted).1 _ h
        omega
    refine ⟨fun h0 => (by rw [h0] at hi0; cases hi0), fun j hj => ?_⟩
    obtain ⟨hjl, oj, hoj, hjed⟩ := mem_ready.1 hj
    have hjs : j < ops.size := (Array.getElem?_eq_some_iff.1 hoj).1
    have hjrem : j ∈ rem := by
      rcases (hL j hjs).1 hjl with h | ⟨h, h'⟩
      · exact h
      · exfalso
        subst h
        rcases hk with ⟨hk, _⟩ | ⟨hk, o, ho, _, hed, _⟩
        · omega
        · rw [ho] at hoj
          injection hoj with hoj
          subst hoj
          have h1 : i0 < j := hlt i0 (by rw [hrem0]; simp)
          have h2 := hed i0 h1
          unfold edge at h2
          obtain ⟨e, he, hb⟩ := Array.any_eq_true'.1 h2
          simp only [Bool.and_eq_true, beq_iff_eq] at hb
          have h3 := hjed e he hb.1
          rw [hb.2] at h3
          have h4 := (hL i0 (by omega)).2 (.inl (by rw [hrem0]; simp))
          have : i0 < listed.size := by omega
          simp [this] at h3 h4
          rw [h3] at h4
          cases h4
    have hjk := hlt j hjrem
    obtain ⟨l1, l2, hsplit⟩ := List.append_of_mem hjrem
    have hsub : ∀ i ∈ l1, ∀ oi, ops.toList[i]? = some oi → indep E ops.toList oi oj = true := by
      intro i hi oi hoi
      have hil : i < j := by
        rw [hsplit, List.pairwise_append] at hsorted
        exact hsorted.2.2 i hi j (by simp)
      rw [Array.getElem?_toList] at hoi
      rcases (hedge j hjk oj hoj).2 i hil oi hoi with h | h
      · exfalso
        unfold edge at h
        obtain ⟨e, he, hb⟩ := Array.any_eq_true'.1 h
        simp only [Bool.and_eq_true, beq_iff_eq] at hb
        have h3 := hjed e he hb.1
        rw [hb.2] at h3
        have h4 := (hL i (by omega)).2 (.inl (by rw [hsplit]; simp [hi]))
        have : i < listed.size := by omega
        simp [this] at h3 h4
        rw [h3] at h4
        cases h4
      · exact h
    have hrun' : runI P call n E ops.toList ((l1 ++ [j]) ++ l2) s = some sp := by rw [List.append_assoc]; simpa [hsplit] using hrun
    rw [runI_append] at hrun'
    obtain ⟨s1, h1, h2⟩ := Option.bind_eq_some_iff.1 hrun'
    obtain ⟨s2, h3, h4⟩ := runI_first (by rw [Array.getElem?_toList]; exact hoj) l1 s s1 hsub h1
    have hrest : runI P call n E ops.toList (l1 ++ l2) s2 = some sp := by rw [runI_append, h4]; exact h2
    have hlen : (l1 ++ l2).length = m := by
      rw [hsplit] at hm
      simp at hm ⊢
      omega
    unfold wpOp
    simp only [hoj]
    have hnext : ∀ a' w', Rep P n S0 F0 w0 s2 a' w' → wpAny P .any ops Q f' (listed.setIfInBounds j true) a' w' := by
      intro a' w' hR'
      refine ih (l1 ++ l2) (listed.setIfInBounds j true) s2 a' w' f' hlen (by omega) ?_ ?_ (by simp [hls]) ?_ hR' hrest
      · rw [hsplit, List.pairwise_append, List.pairwise_cons] at hsorted
        rw [List.pairwise_append]
        exact ⟨hsorted.1, hsorted.2.1.2, fun x hx y hy => hsorted.2.2 x hx y (by simp [hy])⟩
      · intro x hx
        refine hlt x ?_
        rw [hsplit]
        simp only [List.mem_append, List.mem_cons] at hx ⊢
        rcases hx with hx | hx
        · exact .inl hx
        · exact .inr (.inr hx)
      · intro x hx
        have hnotin : j ∉ l1 ++ l2 := by
          rw [hsplit, List.pairwise_append, List.pairwise_cons] at hsorted
          intro h
          rcases List.mem_append.1 h with h | h
          · have := hsorted.2.2 j h j (by simp)
            omega
          · have := hsorted.2.1.1 j h
            omega
        by_cases hxj : j = x
        · subst hxj
          have : j < listed.size := by omega
          simp [this]
          simp at hnotin
          exact ⟨hnotin, fun h => by omega⟩
        · rw [getD_set_ne true hxj, hL x hx, hsplit]
          simp only [List.mem_append, List.mem_cons]
          constructor
          · rintro ((h | h | h) | h)
            · exact .inl (.inl h)
            · exact absurd h.symm hxj
            · exact .inl (.inr h)
            · exact .inr h
          · rintro ((h | h) | h)
            · exact .inl (.inl h)
            · exact .inl (.inr (.inr h))
            · exact .inr h
    have := step_sound (Q := Q) hP hcall hR (stepD_step h3) (K := wpAny P .any ops Q f' (listed.setIfInBounds j true)) hnext
    split at this
    · rename_i hw; rw [if_pos hw]; exact .inl this
    · rename_i hw; rw [if_neg hw]; exact this
theorem range_all {m : Nat} {p : Nat → Bool} (h : (List.range m).all p = true) : ∀ j, j < m → p j = true := fun j hj => List.all_eq_true.1 h j (List.mem_range.2 hj)
theorem drawOk_spec {ops : Array Oper} {k : Nat} (h : drawOk E ops.toList k = true) : ∀ j, j < k → ∀ oj, ops[j]? = some oj → (∀ e ∈ oj.after, Region.binds .any e = true → e.on < j) ∧ ∀ i, i < j → ∀ oi, ops[i]? = some oi → edge oj i = true ∨ indep E ops.toList oi oj = true := by
  intro j hj oj hoj
  have h1 := range_all (Bool.and_eq_true_iff.1 h).2 j hj
  simp only [Array.getElem?_toList, hoj, Bool.and_eq_true] at h1
  obtain ⟨h2, h3⟩ := h1
  refine ⟨fun e he hb => ?_, fun i hi oi hoi => ?_⟩
  · have := Array.all_eq_true_iff_forall_mem.1 h2 e he
    simpa [hb] using this
  · have := range_all h3 i hi
    simpa [Array.getElem?_toList, hoi] using this
theorem draw_sound (hP : Fine P) (hcall : CallOK P call) : DrawOK P call := by
  intro n S0 F0 w0 E id ops s s' a w Q hR h hQ
  refine wp_region_any hP.mixed ?_
  have hR' : Rep P n S0 F0 w0 s a { w with drawn := w.drawn + 1 } := hR.drew
  have start : ∀ (k : Nat) (sp sf : St), (k = ops.size ∧ sf = sp ∨ (k + 1 = ops.size ∧ ∃ o, ops[k]? = some o ∧ step P call n E ops.toList o sp = some sf ∧ (∀ i, i < k → edge o i = true) ∧ ∀ e ∈ o.after, Region.binds .any e = true → e.on < k)) →
      drawOk E ops.toList k = true → (∀ a' w', Rep P n S0 F0 w0 sf a' w' → Q .normal a' w') → runD P call n E ops.toList (ops.toList.take k) s = some sp →
      wpAny P .any ops Q ops.size (Array.replicate ops.size false) a { w with drawn := w.drawn + 1 } := by
    intro k sp sf hk hd hQ' hrun
    have hks : k ≤ ops.size := by rcases hk with ⟨h, _⟩ | ⟨h, _⟩ <;> omega
    have hr0 := runD_range (P := P) (call := call) (n := n) (E := E) (ops := ops.toList) 0 k s (fun j _ => by rw [List.getElem?_drop]) (by simpa using hks)
    simp only [List.drop_zero] at hr0
    rw [hr0] at hrun
    refine any_sound hP hcall hk (drawOk_spec hd) hQ' k (List.range' 0 k) _ s a _ ops.size (by simp) ?_ ?_ ?_ (by simp) ?_ hR' hrun
    · rw [List.length_range']
      rcases hk with ⟨h, _⟩ | ⟨h, _⟩
      · rw [if_pos h]; omega
      · rw [if_neg (by omega)]; omega
    · exact List.pairwise_lt_range'
    · intro j hj
      simp [List.mem_range'] at hj
      exact hj
    · intro j hj
      simp [hj, List.mem_range']
      rcases hk with ⟨h, _⟩ | ⟨h, _⟩ <;> omega
  unfold runDraw at h
  split at h
  · rename_i hl
    injection h with h
    subst h
    have h0 : ops.size = 0 := by
      cases hops : ops.toList with
      | nil => simpa using hops
      | cons x xs => rw [hops] at hl; simp at hl
    have he : ops.toList = [] := by simpa using h0
    exact start 0 s s (.inl ⟨h0.symm, rfl⟩) (by rw [he]; rfl) hQ rfl
  · rename_i o hl
    have hne : ops.size ≠ 0 := by
      intro h0
      have : ops.toList = [] := by simpa using h0
      rw [this] at hl
      cases hl
    split at h
    · split at h
      · rename_i hc
        simp only [Bool.and_eq_true] at hc
        obtain ⟨⟨hc1, hc2⟩, hc3⟩ := hc
        obtain ⟨sp, hsp, hst⟩ := Option.bind_eq_some_iff.1 h
        have hlen : ops.toList.length = ops.size := by simp
        rw [hlen] at hc1 hc2 hc3 hsp
        refine start (ops.size - 1) sp s' (.inr ⟨by omega, o, ?_, hst, range_all hc3, fun e he hb => ?_⟩) hc1 hQ hsp
        · rw [List.getLast?_eq_getElem?, hlen, Array.getElem?_toList] at hl
          exact hl
        · have := Array.all_eq_true_iff_forall_mem.1 hc2 e he
          simpa [hb] using this
      · cases h
    · split at h
      · rename_i hc
        have hlen : ops.toList.length = ops.size := by simp
        rw [hlen] at hc
        refine start ops.size s' s' (.inl ⟨rfl, rfl⟩) hc hQ ?_
        rw [← hlen, List.take_length]
        exact h
      · cases h
end
/-- THE EVALUATOR IS SOUND: what it hands back, the function does, in whatever memory reads so. -/
theorem aev_sound {P : Program} {ext : Call} (hP : Fine P) (hext : CallOK P ext) (N : Nat) : CallOK P (aev P ext N) := sound hP (fun _ h => draw_sound hP h) hext N
theorem noExt_ok {P : Program} : CallOK P noExt := fun _ _ _ _ _ _ h => by cases h
end Go.Av
