/- What each operation of the model does, in the words of abstract values. Over any program; no conditions. -/
import Derived.Test.YtcblgonlgnhgmaaAvE
import Derived.ChangeKeysEq
set_option linter.unusedVariables false
set_option linter.unusedSimpArgs false
set_option linter.unusedSectionVars false
namespace Go.Av
open Go.RowKit
variable [Gs]

theorem addr_add (b off j : Nat) : (⟨b, off, none⟩ : Addr).add j = ⟨b, off + j, none⟩ := by
  by_cases h : j = 0
  · subst h; simp [Addr.add]
  · simp [Addr.add, h]

section
variable {c : Nat} {ν : Nat → Nat → Nat} {F : Nat → Nat → Prop} {w : World} {v : Value}
theorem Den.int_ {k : IntKind} {n : Int} (h : Den c ν F w v (.int k n)) : v = .int k n := by
  cases h with | pure _ _ h => cases h; rfl
theorem Den.bool_ {b : Bool} (h : Den c ν F w v (.bool b)) : v = .bool b := by
  cases h with | pure _ _ h => cases h; rfl
theorem Den.str_ {l : List UInt8} (h : Den c ν F w v (.str l)) : v = .string ⟨l.toArray⟩ := by
  cases h with | pure _ _ h => cases h; rfl
theorem Den.con_ {u : Value} (h : Den c ν F w v (.con u)) : v = u ∧ isCon u = true := by
  cases h with | pure _ _ h => cases h; exact ⟨rfl, ‹_›⟩
theorem Den.list_ {es : List D} (h : Den c ν F w v (.list es)) : Den0 F w v (.list es) := by
  cases h with | pure _ _ h => exact h
theorem Den.fix_ {d : D} {off : Nat} (h : Den c ν F w v (.fix d off)) : Den0 F w v (.fix d off) := by
  cases h with | pure _ _ h => exact h
theorem Den.ptr_ {k g off : Nat} (h : Den c ν F w v (.ptr k g off)) : v = .pointer (some ⟨ν k g, off, none⟩) ∧ g < c := by
  cases h with
  | pure _ _ h => cases h
  | ptr _ _ _ hg => exact ⟨rfl, hg⟩
theorem Den.row_ {k g n sz : Nat} {ag : Bool} (h : Den c ν F w v (.row k g n sz ag)) : ∃ cap, v = .slice (some ⟨ν k g, 0, none⟩) n cap ∧ g < c ∧ n ≤ cap := by
  cases h with
  | pure _ _ h => cases h
  | row _ _ _ cap _ _ hg hn => exact ⟨cap, rfl, hg, hn⟩
theorem Den.tuple_ {cs : List D} (h : Den c ν F w v (.tuple cs)) : ∃ vs : List Value, v = .tuple vs.toArray ∧ vs.length = cs.length ∧ ∀ (i : Nat) (v : Value) (x : D), vs[i]? = some v → cs[i]? = some x → Den c ν F w v x := by
  cases h with
  | pure _ _ h => cases h
  | tuple vs _ h1 h2 => exact ⟨vs, rfl, h1, h2⟩
theorem Den.agg_ {cs : List D} (h : Den c ν F w v (.agg cs)) : ∃ vs : List Value, v = .agg vs.toArray ∧ vs.length = cs.length ∧ (∀ v ∈ vs, v.oneCell' = true) ∧
    ∀ (i : Nat) (v : Value) (x : D), vs[i]? = some v → cs[i]? = some x → Den c ν F w v x := by
  cases h with
  | pure _ _ h => cases h with | agg vs _ h1 h2 h3 => exact ⟨vs, rfl, h1, h2, fun i v x hv hx => .pure v x (h3 i v x hv hx)⟩
  | agg vs _ h1 h2 h3 => exact ⟨vs, rfl, h1, h2, h3⟩
theorem Den.iface_ {t : TypeId} {d : D} (h : Den c ν F w v (.iface t d)) : ∃ u, v = .iface t u ∧ Den c ν F w u d := by
  cases h with
  | pure _ _ h => cases h with | iface _ u _ h => exact ⟨u, rfl, .pure u d h⟩
  | iface _ u _ h => exact ⟨u, rfl, h⟩
theorem Den.func_ {fn : Fn} {f cp : List D} (h : Den c ν F w v (.func fn f cp)) : ∃ fs cs : List Value, v = .func fn fs.toArray cs.toArray ∧ fs.length = f.length ∧ cs.length = cp.length ∧
    (∀ (i : Nat) (v : Value) (x : D), fs[i]? = some v → f[i]? = some x → Den c ν F w v x) ∧ (∀ (i : Nat) (v : Value) (x : D), cs[i]? = some v → cp[i]? = some x → Den c ν F w v x) := by
  cases h with
  | pure _ _ h => cases h with | func _ fs cs _ _ h1 h2 h3 h4 => exact ⟨fs, cs, rfl, h1, h2, fun i v x hv hx => .pure v x (h3 i v x hv hx), fun i v x hv hx => .pure v x (h4 i v x hv hx)⟩
  | func _ fs cs _ _ h1 h2 h3 h4 => exact ⟨fs, cs, rfl, h1, h2, h3, h4⟩

/-- Pure values hold no pointer to a variable. -/
theorem getElem?_of_len {α β : Type} {xs : List α} {ys : List β} (h : xs.length = ys.length) {i : Nat} {x : α} (hx : xs[i]? = some x) : ∃ y, ys[i]? = some y := by
  have : i < ys.length := by
    rw [← h]
    exact (List.getElem?_eq_some_iff.1 hx).1
  exact ⟨ys[i], List.getElem?_eq_getElem this⟩
theorem Den.leafN_ : ∀ (n : Nat) {v : Value} {d : D}, Den c ν F w v d → leafN n d = true → Den0 F w v d := by
  intro n v d h
  induction h generalizing n with
  | bad v => intro h; cases n <;> simp [leafN] at h
  | pure v d hp => intro _; exact hp
  | ptr k g off hg => intro h; cases n <;> simp [leafN] at h
  | row k g n' cap sz ag hg hn => intro h; cases n <;> simp [leafN] at h
  | tuple vs cs h1 _ ih => intro h; cases n <;> simp [leafN] at h
  | agg vs cs h1 h2 _ ih => intro h; cases n <;> simp [leafN] at h
  | iface t v d _ ih =>
    intro h
    cases n with
    | zero => simp [leafN] at h
    | succ n => exact .iface t v d (ih n h)
  | func fn fs cs f cp h1 h2 _ _ ih1 ih2 =>
    intro h
    cases n with
    | zero => simp [leafN] at h
    | succ n =>
      simp only [leafN, Bool.and_eq_true, List.all_eq_true] at h
      exact .func fn fs cs f cp h1 h2 (fun i v x hv hx => ih1 i v x hv hx n (h.1 x (List.mem_of_getElem? hx))) (fun i v x hv hx => ih2 i v x hv hx n (h.2 x (List.mem_of_getElem? hx)))
theorem Den.leaf_ {d : D} (h : Den c ν F w v d) (hl : leaf d = true) : Den0 F w v d := h.leafN_ 6 hl
theorem Den.pureB_ {d : D} (h : Den c ν F w v d) (hl : pureB d = true) : Den0 F w v d := by
  cases d with
  | agg cs =>
    obtain ⟨vs, rfl, h1, h2, h3⟩ := h.agg_
    simp only [pureB, List.all_eq_true] at hl
    exact .agg vs cs h1 h2 fun i v x hv hx => (h3 i v x hv hx).leaf_ (hl x (List.mem_of_getElem? hx))
  | _ => exact h.leaf_ (by simpa [pureB] using hl)
theorem Den0.oneCell {d : D} (h : Den0 F w v d) (hd : ∀ cs, d ≠ .agg cs) : v.oneCell' = true := by
  cases h with
  | agg vs cs => exact absurd rfl (hd cs)
  | con v hv => cases v <;> simp [isCon, Value.oneCell'] at hv ⊢
  | _ => rfl
/-- The cells of a value: those of its reading. -/
theorem Den0.cells {d : D} (h : Den0 F w v d) : v.cells.toList.length = (dcells d).length ∧ (∀ u ∈ v.cells.toList, u.oneCell' = true) ∧
    ∀ (i : Nat) (u : Value) (x : D), v.cells.toList[i]? = some u → (dcells d)[i]? = some x → Den0 F w u x := by
  by_cases hd : ∃ cs, d = .agg cs
  · obtain ⟨cs, rfl⟩ := hd
    cases h with | agg vs _ h1 h2 h3 => exact ⟨by simpa [Value.cells, dcells] using h1, by simpa [Value.cells] using h2, by simpa [Value.cells, dcells] using h3⟩
  · have h1 := h.oneCell (fun cs e => hd ⟨cs, e⟩)
    have h2 : v.cells = #[v] := by cases v <;> simp_all [Value.cells, Value.oneCell']
    have h3 : dcells d = [d] := by
      cases d with
      | agg cs => exact absurd ⟨cs, rfl⟩ hd
      | _ => rfl
    rw [h2, h3]
    refine ⟨rfl, by simpa using h1, fun i u x hu hx => ?_⟩
    cases i with
    | zero =>
      simp at hu hx
      subst hu hx
      exact h
    | succ i => simp at hu

theorem cval1_den (u : Value) : Den c ν F w u (cval1 u) := by
  unfold cval1
  split
  · exact .pure _ _ (.bool _)
  · exact .pure _ _ (.int _ _)
  · rename_i s
    have h : Den0 F w (.string ⟨s.data.toList.toArray⟩) (.str s.data.toList) := .str _
    simp only [Array.toArray_toList] at h
    exact .pure _ _ h
  · exact .pure _ _ (.list none 0 0 1 [] [] rfl (Nat.le_refl _) (by decide) (fun e he => by simp at he) rfl (.inl rfl) (fun i v x hv => by simp at hv))
  · exact .pure _ _ (.con _ rfl)
  · exact .pure _ _ (.con _ rfl)
  · exact .pure _ _ (.con _ rfl)
  · exact .pure _ _ (.con _ rfl)
  · exact .bad _
theorem cval_den (u : Value) : Den c ν F w u (cval u) := by
  unfold cval
  split
  · rename_i vs
    split
    · rename_i hv
      have : Den c ν F w (.agg vs.toList.toArray) (.agg (vs.toList.map cval1)) := .agg vs.toList _ (by simp) (List.all_eq_true.1 hv) fun i v x hv hx => by
        rw [List.getElem?_map, hv] at hx
        simp at hx
        subst hx
        exact cval1_den v
      simpa using this
    · exact .bad _
  · exact cval1_den u
theorem get_den {a : Act} {slot : Nat → D} (hg : GOK F w) (hs : ∀ j, Den c ν F w (a.tmps.getD j undef) (slot j)) (x : Operand) : Den c ν F w (a.eval x) (get slot x) := by
  cases x with
  | tmp t => exact hs t
  | const v => exact cval_den v
  | global g =>
    rcases hg.1 g with h | h
    · show Den c ν F w (a.eval (.global g)) (Gs.gl g)
      rw [h]; exact .bad _
    · exact .pure _ _ h
  | func f => exact .pure _ _ (.func (.func f) [] [] [] [] rfl rfl (fun i v x hv => by simp at hv) (fun i v x hv => by simp at hv))
end
end Go.Av
