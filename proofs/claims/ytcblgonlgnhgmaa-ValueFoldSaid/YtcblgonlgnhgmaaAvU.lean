/- Cuts, literals, lengths, conversions, in the words of abstract values. Over any program; no conditions. -/
import Derived.Test.YtcblgonlgnhgmaaAvT
set_option linter.unusedVariables false
set_option linter.unusedSimpArgs false
set_option linter.unusedSectionVars false
namespace Go.Av
open Go.RowKit
variable [Gs]

section
variable {P : Program} {c : Nat} {ν : Nat → Nat → Nat} {F : Nat → Nat → Prop} {w : World}

theorem run_bound {x : D} {vx : Value} {hi hi' k : Nat} {code : BoundsCode} (hx : Den c ν F w vx x) (h : dbound x hi = some k) (hh : hi ≤ hi') :
    (Instr.sliceBound vx hi' code).run P w = .ok k w ∧ k ≤ hi := by
  unfold dbound at h
  split at h
  · split at h
    · rename_i hb
      injection h with h
      subst h
      rw [hx.int_]
      exact ⟨run_sliceBound w _ _ _ _ hb.1 (by omega), by omega⟩
    · cases h
  · cases h
theorem flat_append (xs ys : List D) : flat (xs ++ ys) = flat xs ++ flat ys := by simp [flat]
theorem flat_take {es : List D} {sz : Nat} (h : ∀ e ∈ es, (dcells e).length = sz) (k : Nat) : flat (es.take k) = (flat es).take (k * sz) := by
  have h1 : flat es = flat (es.take k) ++ flat (es.drop k) := by rw [← flat_append, List.take_append_drop]
  by_cases hk : k ≤ es.length
  · have h2 : (flat (es.take k)).length = k * sz := by
      rw [flat_len (fun e he => h e (List.mem_of_mem_take he))]
      simp [Nat.min_eq_left hk]
    rw [h1, ← h2, List.take_left]
  · rw [List.take_of_length_le (by omega), List.take_of_length_le]
    rw [flat_len h]
    exact Nat.mul_le_mul_right _ (by omega)
theorem flat_drop {es : List D} {sz : Nat} (h : ∀ e ∈ es, (dcells e).length = sz) (k : Nat) : flat (es.drop k) = (flat es).drop (k * sz) := by
  have h1 : flat es = flat (es.take k) ++ flat (es.drop k) := by rw [← flat_append, List.take_append_drop]
  by_cases hk : k ≤ es.length
  · have h2 : (flat (es.take k)).length = k * sz := by
      rw [flat_len (fun e he => h e (List.mem_of_mem_take he))]
      simp [Nat.min_eq_left hk]
    rw [h1, ← h2, List.drop_left]
  · rw [List.drop_eq_nil_of_le (by omega), List.drop_eq_nil_of_le]
    · rfl
    rw [flat_len h]
    exact Nat.mul_le_mul_right _ (by omega)
/-- A cut of a list, at the address that the model computes. -/
theorem Den0.cut {a : Option Addr} {n cp sz l h : Nat} {es : List D} (hd : Den0 F w (.slice a n cp) (.list es)) (hsz : szOk sz es = true) (hl : l ≤ h) (hh : h ≤ n) :
    Den0 F w (.slice (if cp = l then a else a.map (·.add (l * sz))) (h - l) (cp - l)) (.list ((es.take h).drop l)) := by
  cases hd with
  | list _ _ _ s _ vs h1 h2 h3 h4 h5 h6 h7 =>
    by_cases he : l = h
    · have : (es.take h).drop l = [] := List.drop_eq_nil_of_le (by simp; omega)
      rw [this, he, Nat.sub_self]
      exact .list _ 0 _ 1 [] [] rfl (Nat.zero_le _) (by decide) (fun e he => by simp at he) rfl (.inl rfl) (fun i v x hv => by simp at hv)
    · have hne : es ≠ [] := by intro e; rw [e] at h1; simp at h1; omega
      have hs : s = sz := by
        cases es with
        | nil => exact absurd rfl hne
        | cons e es =>
          simp only [szOk, beq_iff_eq] at hsz
          rw [← h4 e (by simp), hsz]
      subst hs
      have hlv : l * s < n * s := Nat.mul_lt_mul_of_pos_right (by omega) h3
      have hhv : h * s ≤ n * s := Nat.mul_le_mul_right _ hh
      have hpos : vs ≠ [] := by
        intro e0
        rw [e0] at h5
        simp at h5
        omega
      obtain ⟨b, off, rfl, hcell⟩ := h6.resolve_left hpos
      rw [if_neg (by omega)]
      have hmem : ∀ e ∈ (es.take h).drop l, (dcells e).length = s := fun e he => h4 e (List.mem_of_mem_take (List.mem_of_mem_drop he))
      refine .list _ _ _ s _ ((vs.take (h * s)).drop (l * s)) ?_ (by omega) h3 hmem ?_ (.inr ⟨b, off + l * s, ?_, ?_⟩) ?_
      · simp; omega
      · have : (h - l) * s = h * s - l * s := Nat.sub_mul _ _ _
        rw [this, List.length_drop, List.length_take, h5, Nat.min_eq_left hhv]
      · simp [addr_add]
      · intro i v hv
        rw [List.getElem?_drop] at hv
        have hv' : vs[l * s + i]? = some v := by
          rw [List.getElem?_take] at hv
          split at hv
          · exact hv
          · cases hv
        have := hcell _ _ hv'
        rwa [← Nat.add_assoc] at this
      · intro i v x hv hx
        rw [flat_drop (fun e he => h4 e (List.mem_of_mem_take he)), flat_take h4, List.getElem?_drop] at hx
        rw [List.getElem?_drop] at hv
        rw [List.getElem?_take] at hv hx
        split at hv
        · rename_i hi
          rw [if_pos hi] at hx
          exact h7 _ _ _ hv hx
        · cases hv
def optBound (v : Option Value) (y : Nat) (code : BoundsCode) (z : Nat) : Sem Nat := match v with | some v => Instr.sliceBound v y code | none => pure z
theorem run_optBound {o : Option D} {v : Option Value} {y y' z k : Nat} {code : BoundsCode} (hd : ∀ u d, v = some u → o = some d → Den c ν F w u d) (hs : v.isSome = o.isSome)
    (h : dopt o y z = some k) (hy : y ≤ y') (hz : z ≤ y) : (optBound v y' code z).run P w = .ok k w ∧ k ≤ y := by
  cases v with
  | none =>
    cases o with
    | none => injection h with h; subst h; exact ⟨rfl, hz⟩
    | some d => simp at hs
  | some u =>
    cases o with
    | none => simp at hs
    | some d => exact run_bound (hd u d rfl rfl) h hy
theorem run_bounds_ {isSlice : Bool} {len cap h0 l0 : Nat} {vlo vhi : Option Value}
    (hH : (optBound vhi cap (if isSlice then .sliceAcap else .sliceAlen) len).run P w = .ok h0 w) (hL : (optBound vlo h0 .sliceB 0).run P w = .ok l0 w) :
    (Instr.sliceBounds isSlice len cap vlo vhi none).run P w = .ok (l0, h0, cap) w := by
  cases vhi <;> cases vlo <;> simp_all [Instr.sliceBounds, optBound]
theorem run_slice_ {t : TypeId} {x d : D} {lo hi : Option D} {vx : Value} {vlo vhi : Option Value} (hx : Den c ν F w vx x) (hlo : ∀ v d, vlo = some v → lo = some d → Den c ν F w v d) (hhi : ∀ v d, vhi = some v → hi = some d → Den c ν F w v d)
    (hlo' : vlo.isSome = lo.isSome) (hhi' : vhi.isSome = hi.isSome) (h : dslice P t x lo hi none = some d) : ∃ u, (Instr.sliceAt t vx vlo vhi none).run P w = .ok u w ∧ Den c ν F w u d := by
  unfold dslice at h
  split at h
  · rename_i e es ht _
    split at h
    · rename_i sz hsz
      split at h
      · rename_i hsz0
        have hx' := hx.list_
        have hform : ∃ a n cp, vx = .slice a n cp := by cases hx' with | list a n cp => exact ⟨a, n, cp, rfl⟩
        obtain ⟨a, n, cp, rfl⟩ := hform
        have hn : es.length = n ∧ n ≤ cp := by cases hx' with | list _ _ _ _ _ _ h1 h2 => exact ⟨h1, h2⟩
        obtain ⟨hn, hcp⟩ := hn
        obtain ⟨h0, hh0, h⟩ := Option.bind_eq_some_iff.1 h
        obtain ⟨l0, hl0, rfl⟩ := Option.map_eq_some_iff.1 h
        obtain ⟨hH1, hH2⟩ := run_optBound (P := P) (y' := cp) (code := .sliceAcap) hhi hhi' hh0 (by omega) (Nat.le_refl _)
        obtain ⟨hL1, hL2⟩ := run_optBound (P := P) (y' := h0) (code := .sliceB) hlo hlo' hl0 (Nat.le_refl _) (Nat.zero_le _)
        refine ⟨_, ?_, .pure _ _ (hx'.cut (sz := sz) hsz0 hL2 (by omega))⟩
        have hB := run_bounds_ (P := P) (w := w) (isSlice := true) (len := n) (cap := cp) (vlo := vlo) (vhi := vhi) (by rw [← hn]; exact hH1) hL1
        simp only [Instr.sliceAt, Instr.slice, Sem.run_bind, run_underlying ht, Result.andThen_ok, hB, run_sizeOf_ hsz, Sem.run_pure]
      · cases h
    · simp at h
  · rename_i l ht _
    rw [hx.str_]
    obtain ⟨h0, hh0, h⟩ := Option.bind_eq_some_iff.1 h
    obtain ⟨l0, hl0, rfl⟩ := Option.map_eq_some_iff.1 h
    obtain ⟨hH1, hH2⟩ := run_optBound (P := P) (y' := l.length) (code := .sliceAlen) hhi hhi' hh0 (Nat.le_refl _) (Nat.le_refl _)
    obtain ⟨hL1, hL2⟩ := run_optBound (P := P) (y' := h0) (code := .sliceB) hlo hlo' hl0 (Nat.le_refl _) (Nat.zero_le _)
    have hsize : (⟨l.toArray⟩ : ByteArray).size = l.length := by simp [ByteArray.size]
    have hext : (⟨l.toArray⟩ : ByteArray).extract l0 h0 = ⟨((l.take h0).drop l0).toArray⟩ := by
      apply ByteArray.ext
      simp [List.extract_toArray, List.extract_eq_take_drop, List.drop_take]
    refine ⟨.string ⟨((l.take h0).drop l0).toArray⟩, ?_, .pure _ _ (.str _)⟩
    rw [← hext]
    have hB := run_bounds_ (P := P) (w := w) (isSlice := false) (len := l.length) (cap := l.length) (vlo := vlo) (vhi := vhi) hH1 hL1
    simp only [Instr.sliceAt, Instr.slice, Sem.run_bind, run_underlying ht, Result.andThen_ok, hsize]
    simp only [Option.isSome_none, Bool.false_eq_true, if_false, Sem.run_bind, hB, Result.andThen_ok, Sem.run_pure]
  · cases h
theorem run_extract {cs : List D} {d : D} {i : Nat} {vx : Value} (hx : Den c ν F w vx (.tuple cs)) (h : cs[i]? = some d) : ∃ u, (Instr.extract vx i).run P w = .ok u w ∧ Den c ν F w u d := by
  obtain ⟨vs, rfl, h1, h2⟩ := hx.tuple_
  obtain ⟨u, hu⟩ := getElem?_of_len h1.symm h
  exact ⟨u, by simp [Instr.extract, hu], h2 _ _ _ hu h⟩
theorem run_len {ts : Array TypeId} {ty : TypeId} {x d : D} {vx : Value} (hx : Den c ν F w vx x) (h : dlen P ts x = some d) : ∃ u, (Builtin.len_ ts ty #[vx]).run P w = .ok u w ∧ Den c ν F w u d := by
  unfold dlen at h
  split at h
  · rename_i e es ht
    obtain ⟨t, hts, ht⟩ := Option.bind_eq_some_iff.1 ht
    injection h with h
    subst h
    have hx' := hx.list_
    cases hx' with
    | list a n cp s _ vs h1 =>
      refine ⟨.int .i64 n, ?_, .pure _ _ (by rw [h1]; exact .int _ _)⟩
      simp [Builtin.len_, hts, run_underlying ht, goInt]
  · rename_i e k g n sz ag ht
    obtain ⟨t, hts, ht⟩ := Option.bind_eq_some_iff.1 ht
    injection h with h
    subst h
    obtain ⟨cap, rfl, _, _⟩ := hx.row_
    refine ⟨.int .i64 n, ?_, .pure _ _ (.int _ _)⟩
    simp [Builtin.len_, hts, run_underlying ht, goInt]
  · rename_i l ht
    obtain ⟨t, hts, ht⟩ := Option.bind_eq_some_iff.1 ht
    injection h with h
    subst h
    rw [hx.str_]
    refine ⟨.int .i64 l.length, ?_, .pure _ _ (.int _ _)⟩
    have hsize : (⟨l.toArray⟩ : ByteArray).size = l.length := by simp [ByteArray.size]
    simp [Builtin.len_, hts, run_underlying ht, goInt, hsize]
  · cases h
theorem run_minmax {ts : Array TypeId} {ty : TypeId} {mx : Bool} {ds : List D} {d : D} {vs : List Value} (hl : vs.length = ds.length) (hx : ∀ (i : Nat) (v : Value) (x : D), vs[i]? = some v → ds[i]? = some x → Den c ν F w v x) (h : dminmax mx ds = some d) :
    ∃ u, (if mx then Builtin.max_ ts ty vs.toArray else Builtin.min_ ts ty vs.toArray).run P w = .ok u w ∧ Den c ν F w u d := by
  unfold dminmax at h
  split at h
  · rename_i k a k' b
    injection h with h
    subst h
    match vs, hl with
    | [v1, v2], _ =>
      have e1 := (hx 0 v1 _ rfl rfl).int_
      have e2 := (hx 1 v2 _ rfl rfl).int_
      subst e1 e2
      cases mx
      · exact ⟨_, rfl, .pure _ _ (.int _ _)⟩
      · exact ⟨_, rfl, .pure _ _ (.int _ _)⟩
  · cases h
end
end Go.Av
