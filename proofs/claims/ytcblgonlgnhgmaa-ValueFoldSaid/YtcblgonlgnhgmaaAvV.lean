/- Literals, conversions, rows of a call's own, in the words of abstract values. Over any program; no conditions. -/
import Derived.Test.YtcblgonlgnhgmaaAvU
import Derived.Laws.Tables
import Derived.Great.BuildSlice
import Derived.Laws.BytesString
import Derived.Laws.MakeOwn
set_option linter.unusedVariables false
set_option linter.unusedSimpArgs false
set_option linter.unusedSectionVars false
namespace Go.Av
open Go.RowKit
variable [Gs]

section
variable {P : Program} {c : Nat} {ν : Nat → Nat → Nat} {F : Nat → Nat → Prop} {w : World}

theorem Den.oneCell_ {v : Value} {d : D} (h : Den c ν F w v d) (hd : ∀ cs, d ≠ .agg cs) (hk : okPart d = true) : v.oneCell' = true := by
  cases d with
  | bad => cases hk
  | tuple cs => cases hk
  | agg cs => exact absurd rfl (hd cs)
  | bool b => rw [h.bool_]; rfl
  | int k n => rw [h.int_]; rfl
  | str l => rw [h.str_]; rfl
  | con u =>
    obtain ⟨rfl, hu⟩ := h.con_
    cases v <;> simp [isCon, Value.oneCell'] at hu ⊢
  | list es => exact h.list_.oneCell (by simp)
  | fix d off => exact h.fix_.oneCell (by simp)
  | ptr k g off => rw [h.ptr_.1]; rfl
  | row k g n sz ag =>
    obtain ⟨cap, rfl, _⟩ := h.row_
    rfl
  | iface t d => obtain ⟨u, rfl, _⟩ := h.iface_; rfl
  | func fn f cp => obtain ⟨fs, cs, rfl, _⟩ := h.func_; rfl
theorem Den.cells {v : Value} {d : D} (h : Den c ν F w v d) (hk : okPart d = true) : v.cells.toList.length = (dcells d).length ∧ (∀ u ∈ v.cells.toList, u.oneCell' = true) ∧
    ∀ (i : Nat) (u : Value) (x : D), v.cells.toList[i]? = some u → (dcells d)[i]? = some x → Den c ν F w u x := by
  by_cases hd : ∃ cs, d = .agg cs
  · obtain ⟨cs, rfl⟩ := hd
    obtain ⟨vs, rfl, h1, h2, h3⟩ := h.agg_
    exact ⟨by simpa [Value.cells, dcells] using h1, by simpa [Value.cells] using h2, by simpa [Value.cells, dcells] using h3⟩
  · have h1 := h.oneCell_ (fun cs e => hd ⟨cs, e⟩) hk
    have h2 : v.cells = #[v] := by cases v <;> simp_all [Value.cells, Value.oneCell']
    have h3 : dcells d = [d] := by
      cases d with
      | agg cs => exact absurd ⟨cs, rfl⟩ hd
      | _ => rfl
    rw [h2, h3]
    refine ⟨rfl, by simpa using h1, fun i u x hu hx => ?_⟩
    cases i with
    | zero =>
      simp at hu hx
      subst hu hx
      exact h
    | succ i => simp at hu
theorem zero_den {z : Value} {zs : List D} (h : zeroCells z = some zs) : z.cells.toList.length = zs.length ∧ (∀ u ∈ z.cells.toList, u.oneCell' = true) ∧
    ∀ (i : Nat) (u : Value) (x : D), z.cells.toList[i]? = some u → zs[i]? = some x → Den c ν F w u x := by
  have one : ∀ v : Value, v.cells = #[v] → v.oneCell' = true → zeroCells v = some [cval1 v] → zeroCells v = some zs → v.cells.toList.length = zs.length ∧ (∀ u ∈ v.cells.toList, u.oneCell' = true) ∧
      ∀ (i : Nat) (u : Value) (x : D), v.cells.toList[i]? = some u → zs[i]? = some x → Den c ν F w u x := by
    intro v h1 h2 h3 h4
    rw [h3] at h4
    injection h4 with h4
    subst h4
    rw [h1]
    refine ⟨rfl, by simpa using h2, fun i u x hu hx => ?_⟩
    cases i with
    | zero =>
      simp at hu hx
      subst hu hx
      exact cval1_den _
    | succ i => simp at hu
  cases z with
  | agg vs =>
    simp only [zeroCells] at h
    split at h
    · rename_i hv
      injection h with h
      subst h
      refine ⟨by simp [Value.cells], by simpa [Value.cells] using List.all_eq_true.1 hv, fun i u x hu hx => ?_⟩
      simp only [Value.cells] at hu
      rw [List.getElem?_map, hu] at hx
      simp at hx
      subst hx
      exact cval1_den u
    · cases h
  | tuple vs => simp [zeroCells] at h
  | _ => exact one _ rfl rfl rfl h
/-- The cells with a part laid in. -/
theorem laid {off : Nat} {vs : List Value} {cells : Array Value} (h : off + vs.length ≤ cells.size) :
    (vs.zipIdx.foldl (fun cs (x : Value × Nat) => cs.setIfInBounds (off + x.2) x.1) cells).toList = cells.toList.take off ++ vs ++ cells.toList.drop (off + vs.length) := by
  obtain ⟨h1, h2⟩ := Great.foldl_set off vs 0 cells
  apply List.ext_getElem?
  intro k
  rw [Array.getElem?_toList, h2 k]
  simp only [Nat.add_zero]
  by_cases hk : off ≤ k ∧ k < off + vs.length ∧ k < cells.size
  · rw [if_pos hk, List.append_assoc, List.getElem?_append_right (by simp; omega)]
    rw [List.getElem?_append_left (by simp; omega)]
    congr 1
    simp
    omega
  · rw [if_neg hk]
    by_cases hlt : k < off
    · rw [List.append_assoc, List.getElem?_append_left (by simp; omega), List.getElem?_take, if_pos hlt, Array.getElem?_toList]
    · rw [List.getElem?_append_right (by simp; omega), List.getElem?_drop, Array.getElem?_toList]
      congr 1
      simp
      omega
theorem pointwise_laid {R : Value → D → Prop} {vs us : List Value} {ds cs : List D} {off : Nat} (hl : us.length = cs.length) (hr : ∀ (i : Nat) (v : Value) (x : D), us[i]? = some v → cs[i]? = some x → R v x)
    (hl' : vs.length = ds.length) (hr' : ∀ (i : Nat) (v : Value) (x : D), vs[i]? = some v → ds[i]? = some x → R v x) :
    (us.take off ++ vs ++ us.drop (off + vs.length)).length = (cs.take off ++ ds ++ cs.drop (off + ds.length)).length ∧
    ∀ (i : Nat) (v : Value) (x : D), (us.take off ++ vs ++ us.drop (off + vs.length))[i]? = some v → (cs.take off ++ ds ++ cs.drop (off + ds.length))[i]? = some x → R v x := by
  refine ⟨by simp [hl, hl'], fun i v x hv hx => ?_⟩
  have e1 : (us.take off).length = (cs.take off).length := by simp [hl]
  by_cases h1 : i < (us.take off).length
  · rw [List.append_assoc, List.getElem?_append_left h1] at hv
    rw [List.append_assoc, List.getElem?_append_left (by omega)] at hx
    rw [List.getElem?_take] at hv hx
    split at hv
    · rename_i h
      rw [if_pos h] at hx
      exact hr _ _ _ hv hx
    · cases hv
  · rw [List.append_assoc, List.getElem?_append_right (by omega)] at hv hx
    rw [← e1] at hx
    by_cases h2 : i - (us.take off).length < vs.length
    · rw [List.getElem?_append_left h2] at hv
      rw [List.getElem?_append_left (by omega)] at hx
      exact hr' _ _ _ hv hx
    · rw [List.getElem?_append_right (by omega)] at hv hx
      rw [List.getElem?_drop] at hv hx
      rw [← hl'] at hx
      exact hr _ _ _ hv hx
theorem run_dfill {place : Nat → Option (Nat × Nat)} : ∀ {parts : List (Nat × D)} {vparts : List (Nat × Value)} {cells : Array Value} {cs r : List D}, vparts.length = parts.length →
    (∀ (i : Nat) (v : Nat × Value) (x : Nat × D), vparts[i]? = some v → parts[i]? = some x → v.1 = x.1 ∧ Den c ν F w v.2 x.2) →
    cells.toList.length = cs.length → (∀ u ∈ cells.toList, u.oneCell' = true) → (∀ (i : Nat) (u : Value) (x : D), cells.toList[i]? = some u → cs[i]? = some x → Den c ν F w u x) →
    dfill place cs parts = some r → ∃ cells', Instr.fill place cells vparts = some cells' ∧ cells'.toList.length = r.length ∧ (∀ u ∈ cells'.toList, u.oneCell' = true) ∧
      ∀ (i : Nat) (u : Value) (x : D), cells'.toList[i]? = some u → r[i]? = some x → Den c ν F w u x
  | [], [], cells, cs, r, _, _, h1, h2, h3, h => by
    simp only [dfill] at h
    injection h with h
    subst h
    exact ⟨cells, rfl, h1, h2, h3⟩
  | (i, d) :: parts, (j, v) :: vparts, cells, cs, r, hl, hp, h1, h2, h3, h => by
    obtain ⟨e1, hd⟩ := hp 0 _ _ rfl rfl
    simp only at e1 hd
    subst e1
    simp only [dfill] at h
    split at h
    · cases h
    · rename_i off size hpl
      split at h
      · rename_i hc
        obtain ⟨hc1, hc2, hc3⟩ := hc
        obtain ⟨k1, k2, k3⟩ := hd.cells hc3
        have hsz : v.cells.size = size := by rw [← hc1, ← k1]; simp
        have hle : off + v.cells.size ≤ cells.size := by rw [hsz]; have : cells.size = cs.length := by simpa using h1
                                                         omega
        have hlaid := laid (off := off) (vs := v.cells.toList) (cells := cells) (by simpa using hle)
        have hpw := pointwise_laid (off := off) h1 h3 k1 k3
        rw [hc1] at hpw
        have ih := run_dfill (place := place) (parts := parts) (vparts := vparts) (cells := v.cells.toList.zipIdx.foldl (fun cs (x : Value × Nat) => cs.setIfInBounds (off + x.2) x.1) cells)
          (by simpa using hl) (fun i v x hv hx => hp (i + 1) v x hv hx) (by rw [hlaid]; exact hpw.1) (by
            rw [hlaid]
            intro u hu
            simp only [List.mem_append] at hu
            rcases hu with (hu | hu) | hu
            · exact h2 u (List.mem_of_mem_take hu)
            · exact k2 u hu
            · exact h2 u (List.mem_of_mem_drop hu)) (by rw [hlaid]; exact hpw.2) h
        obtain ⟨cells', hf, hrest⟩ := ih
        refine ⟨cells', ?_, hrest⟩
        simp only [Instr.fill, hpl]
        rw [if_neg (by simp only [Bool.or_eq_true, decide_eq_true_eq, ne_eq]; omega)]
        rw [← hf]
        congr 1
        rw [← Array.foldl_toList]
        simp
      · cases h
theorem run_build_ {t : TypeId} {parts : List (Nat × D)} {vparts : Array (Nat × Value)} {d : D} (hl : vparts.toList.length = parts.length)
    (hp : ∀ (i : Nat) (v : Nat × Value) (x : Nat × D), vparts.toList[i]? = some v → parts[i]? = some x → v.1 = x.1 ∧ Den c ν F w v.2 x.2) (h : dbuild P t parts = some d) :
    ∃ u, (Instr.build t vparts).run P w = .ok u w ∧ Den c ν F w u d := by
  unfold dbuild at h
  split at h
  · rename_i fs zero hu hz
    obtain ⟨ps, hps, h⟩ := Option.bind_eq_some_iff.1 h
    obtain ⟨r, hr, rfl⟩ := Option.map_eq_some_iff.1 h
    unfold zeroOf at hz
    obtain ⟨it, hit, hz⟩ := Option.bind_eq_some_iff.1 hz
    obtain ⟨z, hz0, hz⟩ := Option.bind_eq_some_iff.1 hz
    obtain ⟨z1, z2, z3⟩ := zero_den (c := c) (ν := ν) (F := F) (w := w) hz
    obtain ⟨cells', hf, k1, k2, k3⟩ := run_dfill (c := c) (ν := ν) (F := F) (w := w) hl hp z1 z2 z3 hr
    refine ⟨.agg cells', run_build w t vparts cells' ?_, ?_⟩
    · unfold Program.built
      unfold places at hps
      simp only [hit, hu, hz0, hps]
      simpa using hf
    · have : Den c ν F w (.agg cells'.toList.toArray) (.agg r) := .agg cells'.toList r k1 k2 k3
      simpa using this
  · cases h
end
end Go.Av
