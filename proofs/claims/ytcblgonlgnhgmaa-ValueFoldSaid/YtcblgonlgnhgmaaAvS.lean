/- Comparisons and arithmetic, in the words of abstract values. Over any program; no conditions. -/
import Derived.Test.YtcblgonlgnhgmaaAvR
set_option linter.unusedVariables false
set_option linter.unusedSimpArgs false
set_option linter.unusedSectionVars false
namespace Go.Av
open Go.RowKit
variable [Gs]

section
variable {P : Program} {c : Nat} {ν : Nat → Nat → Nat} {F : Nat → Nat → Prop} {w : World}

theorem run_intBin {op : BinOp} {k : IntKind} {a b : Int} {d : D} (h : dIntBin op k a b = some d) :
    ∃ v, (match op with
      | .add | .sub | .mul => Op.intArith op k a b
      | .quo | .rem => Op.intDiv op k a b
      | .and | .or | .xor | .andNot => Op.intBits op k a b
      | _ => Op.intCmp op a b : Sem Value).run P w = .ok v w ∧ Den c ν F w v d := by
  cases op <;> simp only [dIntBin] at h <;> first
    | (injection h with h; subst h; first
        | exact ⟨_, rfl, .pure _ _ (.int _ _)⟩
        | exact ⟨_, rfl, .pure _ _ (.bool _)⟩)
    | (split at h
       · cases h
       · rename_i hb; injection h with h; subst h; exact ⟨_, by simp [Op.intDiv, hb], .pure _ _ (.int _ _)⟩)
    | cases h
theorem run_shift_ {op : BinOp} {k : IntKind} {a b : Int} {d : D} (yk : IntKind) (h : dShift op k a b = some d) : ∃ v, (Op.shift op k a yk b).run P w = .ok v w ∧ Den c ν F w v d := by
  unfold dShift at h
  split at h
  · cases h
  · rename_i hb
    cases op <;> simp at h <;> subst h
    · exact ⟨_, by simp [Op.shift, hb], .pure _ _ (.int _ _)⟩
    · exact ⟨_, by simp [Op.shift, hb], .pure _ _ (.int _ _)⟩
theorem toList_mk (a : List UInt8) : (⟨a.toArray⟩ : ByteArray).toList = a := by
  simp
theorem run_strBin {op : BinOp} {a b : List UInt8} {d : D} (h : dStrBin op a b = some d) : ∃ v, (Op.stringOp op ⟨a.toArray⟩ ⟨b.toArray⟩).run P w = .ok v w ∧ Den c ν F w v d := by
  cases op <;> simp only [dStrBin] at h <;> first
    | cases h; done
    | (injection h with h; subst h; exact ⟨_, by simp [Op.stringOp], .pure _ _ (.bool _)⟩)
    | (split at h
       · rename_i hl
         injection h with h
         subst h
         refine ⟨.string ⟨(a ++ b).toArray⟩, ?_, .pure _ _ (.str _)⟩
         have h1 : ¬ ((((⟨a.toArray⟩ : ByteArray).size + (⟨b.toArray⟩ : ByteArray).size : Nat) : Int) > IntKind.i64.max) := by
           have h2 : (⟨a.toArray⟩ : ByteArray).size = a.length := by simp [ByteArray.size]
           have h3 : (⟨b.toArray⟩ : ByteArray).size = b.length := by simp [ByteArray.size]
           rw [h2, h3]
           simp [IntKind.max, IntKind.signed, IntKind.bits]
           omega
         simp only [Op.stringOp, if_neg h1]
         have h4 : (⟨a.toArray⟩ ++ ⟨b.toArray⟩ : ByteArray) = ⟨(a ++ b).toArray⟩ := by
           apply ByteArray.ext
           simp
         rw [h4]
         rfl
       · cases h)
/-- Comparisons with nil, and of bools. -/
theorem run_eqIn (n : Nat) {t : TypeId} {lit b : Bool} {x y : D} {vx vy : Value} (hx : Den c ν F w vx x) (hy : Den c ν F w vy y) (hs : shapeOk P t x y = true) (h : dNilEq lit x y = some b) :
    (Op.equalIn (n + 1) t vx vy).run P w = .ok b w := by
  unfold dNilEq at h
  split at h
  · rw [hx.con_.1, hy.con_.1]
    split at h
    · injection h with h
      subst h
      simp only [shapeOk] at hs
      split at hs <;> first | (rename_i h0; simp [Op.equalIn, run_underlying h0]) | cases hs
    · cases h
  · rw [hx.con_.1, hy.con_.1]
    injection h with h
    subst h
    simp only [shapeOk] at hs
    split at hs <;> first | (rename_i h0; simp [Op.equalIn, run_underlying h0]) | cases hs
  · obtain ⟨rfl, _⟩ := hx.con_
    have hy' := hy.fix_
    cases hy'
    injection h with h
    subst h
    simp only [shapeOk] at hs
    split at hs <;> first | (rename_i h0; simp [Op.equalIn, run_underlying h0]) | cases hs
  · obtain ⟨rfl, _⟩ := hy.con_
    have hx' := hx.fix_
    cases hx'
    injection h with h
    subst h
    simp only [shapeOk] at hs
    split at hs <;> first | (rename_i h0; simp [Op.equalIn, run_underlying h0]) | cases hs
  · obtain ⟨rfl, _⟩ := hx.con_
    obtain ⟨rfl, _⟩ := hy.ptr_
    injection h with h
    subst h
    simp only [shapeOk] at hs
    split at hs <;> first | (rename_i h0; simp [Op.equalIn, run_underlying h0]) | cases hs
  · obtain ⟨rfl, _⟩ := hy.con_
    obtain ⟨rfl, _⟩ := hx.ptr_
    injection h with h
    subst h
    simp only [shapeOk] at hs
    split at hs <;> first | (rename_i h0; simp [Op.equalIn, run_underlying h0]) | cases hs
  · obtain ⟨rfl, _⟩ := hx.con_
    obtain ⟨u, rfl, _⟩ := hy.iface_
    injection h with h
    subst h
    simp only [shapeOk] at hs
    split at hs <;> first | (rename_i h0; simp [Op.equalIn, run_underlying h0]) | cases hs
  · obtain ⟨rfl, _⟩ := hy.con_
    obtain ⟨u, rfl, _⟩ := hx.iface_
    injection h with h
    subst h
    simp only [shapeOk] at hs
    split at hs <;> first | (rename_i h0; simp [Op.equalIn, run_underlying h0]) | cases hs
  · obtain ⟨rfl, _⟩ := hx.con_
    obtain ⟨fs, cs, rfl, _⟩ := hy.func_
    injection h with h
    subst h
    simp only [shapeOk] at hs
    split at hs <;> first | (rename_i h0; simp [Op.equalIn, run_underlying h0]) | cases hs
  · obtain ⟨rfl, _⟩ := hy.con_
    obtain ⟨fs, cs, rfl, _⟩ := hx.func_
    injection h with h
    subst h
    simp only [shapeOk] at hs
    split at hs <;> first | (rename_i h0; simp [Op.equalIn, run_underlying h0]) | cases hs
  · cases h
theorem run_eqBool (n : Nat) {t : TypeId} (a b : Bool) (h0 : P.underlying t = some .bool) : (Op.equalIn (n + 1) t (.bool a) (.bool b)).run P w = .ok (a == b) w := by
  simp [Op.equalIn, run_underlying h0]
/-- Not both nil interface values, nor both rows of cells: no guard. -/
def plainPair : Value → Value → Bool
  | .nilIface, .nilIface | .agg _, .agg _ => false
  | _, _ => true
theorem run_guard_plain (op : BinOp) (t : TypeId) (x y : Operand) {a b : Value} (h : plainPair a b = true) : (eqGuard op t x y a b).run P w = .ok () w := by
  unfold eqGuard
  cases op <;> simp <;> (split <;> first | rfl | simp_all [plainPair])
theorem run_guard_lit (op : BinOp) (t : TypeId) (x y : Operand) (h : (isLit x || isLit y) = true) : (eqGuard op t x y .nilIface .nilIface).run P w = .ok () w := by
  have h' : (∃ v, x = .const v) ∨ ∃ v, y = .const v := by
    cases x with
    | const v => exact .inl ⟨v, rfl⟩
    | _ => cases y with
      | const v => exact .inr ⟨v, rfl⟩
      | _ => simp [isLit] at h
  rcases h' with ⟨v, rfl⟩ | ⟨v, rfl⟩ <;> cases op <;> simp [eqGuard]
theorem run_bin {op : BinOp} {t : TypeId} {x y : Operand} {dx dy d : D} {vx vy : Value} (hx : Den c ν F w vx dx) (hy : Den c ν F w vy dy)
    (h : dbin P (isLit x || isLit y) op t dx dy = some d) : ∃ v, (do eqGuard op t x y vx vy; binOp op t vx vy : Sem Value).run P w = .ok v w ∧ Den c ν F w v d := by
  have fin : ∀ {v : Value}, plainPair vx vy = true → (binOp op t vx vy).run P w = .ok v w → (do eqGuard op t x y vx vy; binOp op t vx vy : Sem Value).run P w = .ok v w := by
    intro v hp hr
    rw [Sem.run_bind, run_guard_plain op t x y hp]
    exact hr
  have nilc : ∀ {b : Bool}, shapeOk P t dx dy = true → dNilEq (isLit x || isLit y) dx dy = some b → (eqGuard op t x y vx vy).run P w = .ok () w ∧ ((op = .eql → (binOp op t vx vy).run P w = .ok (.bool b) w) ∧ (op = .neq → (binOp op t vx vy).run P w = .ok (.bool (!b)) w)) := by
    intro b hs hn
    have he : ∀ m, (Op.equalIn (m + 1) t vx vy).run P w = .ok b w := fun m => run_eqIn m hx hy hs hn
    have heq : (Op.equal t vx vy).run P w = .ok b w := he 9999
    refine ⟨?_, ?_, ?_⟩
    · by_cases hp : plainPair vx vy = true
      · exact run_guard_plain op t x y hp
      · unfold dNilEq at hn
        split at hn
        · rw [hx.con_.1, hy.con_.1]
          split at hn
          · rename_i hl
            exact run_guard_lit op t x y hl
          · cases hn
        · rw [hx.con_.1, hy.con_.1] at hp ⊢
          exact absurd rfl hp
        · obtain ⟨rfl, _⟩ := hx.con_
          exact absurd rfl hp
        · obtain ⟨rfl, _⟩ := hy.con_
          have hx' := hx.fix_
          cases hx'
          exact absurd rfl hp
        · obtain ⟨rfl, _⟩ := hx.con_
          exact absurd rfl hp
        · obtain ⟨rfl, _⟩ := hy.con_
          obtain ⟨rfl, _⟩ := hx.ptr_
          exact absurd rfl hp
        · obtain ⟨rfl, _⟩ := hx.con_
          obtain ⟨u, rfl, _⟩ := hy.iface_
          exact absurd rfl hp
        · obtain ⟨rfl, _⟩ := hy.con_
          obtain ⟨u, rfl, _⟩ := hx.iface_
          exact absurd rfl hp
        · obtain ⟨rfl, _⟩ := hx.con_
          exact absurd rfl hp
        · obtain ⟨rfl, _⟩ := hy.con_
          obtain ⟨fs, cs, rfl, _⟩ := hx.func_
          exact absurd rfl hp
        · cases hn
    · rintro rfl
      have hb : binOp .eql t vx vy = (do pure (.bool (← Op.equal t vx vy))) := by
        unfold dNilEq at hn
        split at hn
        · rw [hx.con_.1, hy.con_.1]; rfl
        · rw [hx.con_.1, hy.con_.1]; rfl
        · obtain ⟨rfl, _⟩ := hx.con_; have hy' := hy.fix_; cases hy'; rfl
        · obtain ⟨rfl, _⟩ := hy.con_; have hx' := hx.fix_; cases hx'; rfl
        · obtain ⟨rfl, _⟩ := hx.con_; obtain ⟨rfl, _⟩ := hy.ptr_; rfl
        · obtain ⟨rfl, _⟩ := hy.con_; obtain ⟨rfl, _⟩ := hx.ptr_; rfl
        · obtain ⟨rfl, _⟩ := hx.con_; obtain ⟨u, rfl, _⟩ := hy.iface_; rfl
        · obtain ⟨rfl, _⟩ := hy.con_; obtain ⟨u, rfl, _⟩ := hx.iface_; rfl
        · obtain ⟨rfl, _⟩ := hx.con_; obtain ⟨fs, cs, rfl, _⟩ := hy.func_; rfl
        · obtain ⟨rfl, _⟩ := hy.con_; obtain ⟨fs, cs, rfl, _⟩ := hx.func_; rfl
        · cases hn
      rw [hb, Sem.run_bind, heq]
      rfl
    · rintro rfl
      have hb : binOp .neq t vx vy = (do pure (.bool (!(← Op.equal t vx vy)))) := by
        unfold dNilEq at hn
        split at hn
        · rw [hx.con_.1, hy.con_.1]; rfl
        · rw [hx.con_.1, hy.con_.1]; rfl
        · obtain ⟨rfl, _⟩ := hx.con_; have hy' := hy.fix_; cases hy'; rfl
        · obtain ⟨rfl, _⟩ := hy.con_; have hx' := hx.fix_; cases hx'; rfl
        · obtain ⟨rfl, _⟩ := hx.con_; obtain ⟨rfl, _⟩ := hy.ptr_; rfl
        · obtain ⟨rfl, _⟩ := hy.con_; obtain ⟨rfl, _⟩ := hx.ptr_; rfl
        · obtain ⟨rfl, _⟩ := hx.con_; obtain ⟨u, rfl, _⟩ := hy.iface_; rfl
        · obtain ⟨rfl, _⟩ := hy.con_; obtain ⟨u, rfl, _⟩ := hx.iface_; rfl
        · obtain ⟨rfl, _⟩ := hx.con_; obtain ⟨fs, cs, rfl, _⟩ := hy.func_; rfl
        · obtain ⟨rfl, _⟩ := hy.con_; obtain ⟨fs, cs, rfl, _⟩ := hx.func_; rfl
        · cases hn
      rw [hb, Sem.run_bind, heq]
      rfl
  unfold dbin at h
  split at h
  · rw [hx.int_, hy.int_] at fin ⊢
    obtain ⟨v, h1, h2⟩ := run_shift_ (P := P) (c := c) (ν := ν) (F := F) (w := w) .i64 h
    exact ⟨v, fin rfl (by rw [← h1]; rfl), h2⟩
  · rw [hx.int_, hy.int_] at fin ⊢
    obtain ⟨v, h1, h2⟩ := run_shift_ (P := P) (c := c) (ν := ν) (F := F) (w := w) .i64 h
    exact ⟨v, fin rfl (by rw [← h1]; rfl), h2⟩
  · rename_i k a k' b hn1 hn2
    rw [hx.int_, hy.int_] at fin ⊢
    split at h
    · rename_i hk
      subst hk
      obtain ⟨v, h1, h2⟩ := run_intBin (P := P) (c := c) (ν := ν) (F := F) (w := w) h
      refine ⟨v, fin rfl ?_, h2⟩
      cases op <;> first
        | (simp [dIntBin] at h; done)
        | (rw [← h1]; simp [binOp]; done)
    · cases h
  · rw [hx.str_, hy.str_] at fin ⊢
    obtain ⟨v, h1, h2⟩ := run_strBin (P := P) (c := c) (ν := ν) (F := F) (w := w) h
    refine ⟨v, fin rfl ?_, h2⟩
    cases op <;> first
      | (simp [dStrBin] at h; done)
      | (rw [← h1]; rfl)
  · rename_i a b
    rw [hx.bool_, hy.bool_] at fin ⊢
    split at h
    · rename_i hb0
      rw [if_pos rfl] at h
      · injection h with h
        subst h
        refine ⟨_, fin rfl ?_, .pure _ _ (.bool _)⟩
        have := run_eqBool (P := P) (w := w) 9999 (t := t) a b hb0
        show (do pure (.bool (← Op.equal t (.bool a) (.bool b))) : Sem Value).run P w = _
        rw [Sem.run_bind, show Op.equal t (.bool a) (.bool b) = Op.equalIn (9999 + 1) t (.bool a) (.bool b) from rfl, this]
        rfl
    · simp at h
  · rename_i a b
    rw [hx.bool_, hy.bool_] at fin ⊢
    split at h
    · rename_i hb0
      rw [if_pos rfl] at h
      · injection h with h
        subst h
        refine ⟨_, fin rfl ?_, .pure _ _ (.bool _)⟩
        have := run_eqBool (P := P) (w := w) 9999 (t := t) a b hb0
        show (do pure (.bool (!(← Op.equal t (.bool a) (.bool b)))) : Sem Value).run P w = _
        rw [Sem.run_bind, show Op.equal t (.bool a) (.bool b) = Op.equalIn (9999 + 1) t (.bool a) (.bool b) from rfl, this]
        rfl
    · simp at h
  · split at h
    · rename_i hs
      rw [Option.map_eq_some_iff] at h
      obtain ⟨b, hb, rfl⟩ := h
      obtain ⟨h1, h2, _⟩ := nilc hs hb
      exact ⟨_, by rw [Sem.run_bind, h1]; exact h2 rfl, .pure _ _ (.bool _)⟩
    · cases h
  · split at h
    · rename_i hs
      rw [Option.map_eq_some_iff] at h
      obtain ⟨b, hb, rfl⟩ := h
      obtain ⟨h1, _, h2⟩ := nilc hs hb
      exact ⟨_, by rw [Sem.run_bind, h1]; exact h2 rfl, .pure _ _ (.bool _)⟩
    · cases h
  · cases h
end
end Go.Av
