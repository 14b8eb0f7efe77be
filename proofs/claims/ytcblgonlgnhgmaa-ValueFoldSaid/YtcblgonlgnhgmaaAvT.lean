/- Parts of structs and lists, loads, addresses, in the words of abstract values. Over any program; no conditions. -/
import Derived.Test.YtcblgonlgnhgmaaAvS
set_option linter.unusedVariables false
set_option linter.unusedSimpArgs false
set_option linter.unusedSectionVars false
namespace Go.Av
open Go.RowKit
variable [Gs]

section
variable {P : Program} {c : Nat} {ν : Nat → Nat → Nat} {F : Nat → Nat → Prop} {w : World}

theorem run_un {op : UnOp} {x d : D} {vx : Value} (hx : Den c ν F w vx x) (h : dun op x = some d) : ∃ v, (Op.unary op vx).run P w = .ok v w ∧ Den c ν F w v d := by
  unfold dun at h
  split at h
  · rw [hx.int_]
    injection h with h
    subst h
    exact ⟨_, rfl, .pure _ _ (.int _ _)⟩
  · rw [hx.bool_]
    injection h with h
    subst h
    exact ⟨_, rfl, .pure _ _ (.bool _)⟩
  · cases h

theorem info_of_sizeT {t : TypeId} {n : Nat} (h : sizeT P t = some n) : ∃ i, P.info? t = some i ∧ i.size = n := by
  unfold sizeT at h
  rw [Option.map_eq_some_iff] at h
  exact h
theorem run_sizeOf_ {t : TypeId} {n : Nat} (h : sizeT P t = some n) : (sizeOf t).run P w = .ok n w := by
  obtain ⟨i, hi, rfl⟩ := info_of_sizeT h
  simp [sizeOf, typeInfo, hi]
theorem run_isAgg_ {t : TypeId} {b : Bool} (h : aggOf P t = some b) : (isAgg t).run P w = .ok b w := by
  unfold aggOf at h
  rw [Option.map_eq_some_iff] at h
  obtain ⟨d, hd, rfl⟩ := h
  simp only [isAgg, Sem.run_bind, run_underlying hd, Result.andThen_ok]
  cases d <;> rfl
theorem getElem?_drop_take {α : Type} {xs : List α} {off n i : Nat} (hi : i < n) : ((xs.drop off).take n)[i]? = xs[off + i]? := by
  rw [List.getElem?_take, if_pos hi, List.getElem?_drop]
/-- A part of a row of cells. -/
theorem run_part {R : Value → D → Prop} (hagg : ∀ (vs : List Value) (cs : List D), vs.length = cs.length → (∀ v ∈ vs, v.oneCell' = true) → (∀ (i : Nat) (v : Value) (x : D), vs[i]? = some v → cs[i]? = some x → R v x) → R (.agg vs.toArray) (.agg cs))
    {t : TypeId} {vs : List Value} {cs : List D} {off : Nat} {d : D} (hl : vs.length = cs.length) (h1 : ∀ v ∈ vs, v.oneCell' = true) (hr : ∀ (i : Nat) (v : Value) (x : D), vs[i]? = some v → cs[i]? = some x → R v x)
    (h : dpart P t cs off = some d) : ∃ v, (part t vs.toArray off).run P w = .ok v w ∧ R v d := by
  unfold dpart at h
  split at h
  · rename_i n ha hn
    split at h
    · rename_i hle
      injection h with h
      subst h
      refine ⟨.agg ((vs.drop off).take n).toArray, ?_, hagg _ _ ?_ ?_ ?_⟩
      · simp only [part, Sem.run_bind, run_isAgg_ ha, Result.andThen_ok, if_true, run_sizeOf_ hn]
        simp [List.extract_toArray, List.extract_eq_take_drop]
      · simp [hl]
      · intro v hv
        exact h1 v (List.mem_of_mem_drop (List.mem_of_mem_take hv))
      · intro i v x hv hx
        have hi : i < n := by
          have := (List.getElem?_eq_some_iff.1 hv).1
          simp at this
          omega
        rw [getElem?_drop_take hi] at hv hx
        exact hr _ _ _ hv hx
    · cases h
  · rename_i ha
    obtain ⟨v, hv⟩ := getElem?_of_len hl.symm h
    refine ⟨v, ?_, hr _ _ _ hv h⟩
    simp only [part, Sem.run_bind, run_isAgg_ ha, Result.andThen_ok]
    simp [hv]
  · cases h
/-- A variable's value, off cells that read so. -/
theorem run_load_part {t : TypeId} {vs : List Value} {cs : List D} {b o off : Nat} {d : D} (hl : vs.length = cs.length) (hc : ∀ (i : Nat) (v : Value), vs[i]? = some v → w.cell? ⟨b, o + i, none⟩ = some v ∧ v.oneCell' = true)
    (hr : ∀ (i : Nat) (v : Value) (x : D), vs[i]? = some v → cs[i]? = some x → Den0 F w v x) (h : dpart P t cs off = some d) :
    ∃ v, (loadVar t ⟨b, o + off, none⟩).run P w = .ok v w ∧ Den0 F w v d := by
  unfold dpart at h
  split at h
  · rename_i n ha hn
    split at h
    · rename_i hle
      injection h with h
      subst h
      refine ⟨.agg ((vs.drop off).take n).toArray, ?_, .agg _ _ ?_ ?_ ?_⟩
      · simp only [loadVar, Sem.run_bind, run_isAgg_ ha, Result.andThen_ok, if_true, run_sizeOf_ hn]
        have hlen : ((vs.drop off).take n).length = n := by simp [hl]; omega
        have := run_loadCells_list (P := P) (w := w) ⟨b, o + off, none⟩ ((vs.drop off).take n) (fun j v hj => by
          have hjn : j < n := by
            have := (List.getElem?_eq_some_iff.1 hj).1
            rw [hlen] at this
            exact this
          rw [getElem?_drop_take hjn] at hj
          rw [addr_add, Nat.add_assoc]
          exact (hc _ _ hj).1)
        rw [hlen] at this
        rw [this]
        rfl
      · simp [hl]
      · intro v hv
        obtain ⟨i, hi⟩ := List.getElem?_of_mem (List.mem_of_mem_drop (List.mem_of_mem_take hv))
        exact (hc _ _ hi).2
      · intro i v x hv hx
        have hi : i < n := by
          have := (List.getElem?_eq_some_iff.1 hv).1
          simp at this
          omega
        rw [getElem?_drop_take hi] at hv hx
        exact hr _ _ _ hv hx
    · cases h
  · rename_i ha
    obtain ⟨v, hv⟩ := getElem?_of_len hl.symm h
    refine ⟨v, ?_, hr _ _ _ hv h⟩
    simp only [loadVar, Sem.run_bind, run_isAgg_ ha, Result.andThen_ok]
    simp [run_load, (hc _ _ hv).1]
  · cases h
theorem run_load_fix {t : TypeId} {x d : D} {off : Nat} {v : Value} (hv : Den0 F w v (.fix x off)) (h : dpart P t (dcells x) off = some d) :
    ∃ u, (Instr.loadAt t v).run P w = .ok u w ∧ Den0 F w u d := by
  cases hv with
  | fix _ b o _ vs h1 h2 h3 =>
    obtain ⟨u, hr, hd⟩ := run_load_part (P := P) (F := F) (w := w) (b := b) (o := o) h1 (fun i v hi => ⟨(h2 i v hi).2.1, (h2 i v hi).2.2⟩) h3 h
    exact ⟨u, by simp only [Instr.loadAt, Instr.sureAddr, Sem.run_bind, Sem.run_pure, Result.andThen_ok, hr], hd⟩
theorem run_fieldAddr {s : TypeId} {x d : D} {i : Nat} {v : Value} (hv : Den c ν F w v x) (h : dfieldAddr P s x i = some d) : ∃ u, (Instr.fieldAt s v i).run P w = .ok u w ∧ Den c ν F w u d := by
  unfold dfieldAddr at h
  split at h
  · cases h
  rename_i f hf
  unfold fieldOf at hf
  obtain ⟨td, htd, hf⟩ := Option.bind_eq_some_iff.1 hf
  cases td with
  | struct fs =>
    split at h
    · cases h
    · cases h
    · rename_i n h0 hn
      have hn0 : n ≠ 0 := fun e => h0 e
      have run : ∀ b o : Nat, (Instr.fieldAt s (.pointer (some ⟨b, o, none⟩)) i).run P w = .ok (.pointer (some ⟨b, o + f.offset, none⟩)) w := fun b o => by
        simp only [Instr.fieldAt, Sem.run_bind, run_underlying htd, Result.andThen_ok, hf, Instr.sureAddr, Sem.run_pure, fieldPlace, run_sizeOf_ hn]
        rw [if_neg hn0]
        simp [addr_add]
      split at h
      · rename_i d0 off
        injection h with h
        subst h
        have hv' := hv.fix_
        cases hv' with
        | fix _ b o _ vs h1 h2 h3 =>
          refine ⟨_, run b (o + off), .pure _ _ ?_⟩
          rw [Nat.add_assoc]
          exact .fix d0 b o _ vs h1 h2 h3
      · rename_i k g off
        injection h with h
        subst h
        obtain ⟨rfl, hg⟩ := hv.ptr_
        exact ⟨_, run _ off, .ptr k g _ hg⟩
      · cases h
  | _ => cases hf
theorem run_field {s : TypeId} {x d : D} {i : Nat} {v : Value} (hv : Den c ν F w v x) (h : dfield P s x i = some d) : ∃ u, (Instr.field s v i).run P w = .ok u w ∧ Den c ν F w u d := by
  unfold dfield at h
  split at h
  · rename_i f cs hf
    unfold fieldOf at hf
    obtain ⟨td, htd, hf⟩ := Option.bind_eq_some_iff.1 hf
    cases td with
    | struct fs =>
      obtain ⟨vs, rfl, h1, h2, h3⟩ := hv.agg_
      obtain ⟨u, hr, hd⟩ := run_part (P := P) (w := w) (R := Den c ν F w) (fun vs cs a b d => .agg vs cs a b d) h1 h2 h3 h
      refine ⟨u, ?_, hd⟩
      simp only [Instr.field, Sem.run_bind, run_underlying htd, Result.andThen_ok]
      simp [hf, asAgg, hr]
    | _ => cases hf
  · cases h

/-- The cells of element k. -/
theorem flat_at : ∀ {es : List D} {sz k : Nat} {e : D}, (∀ e ∈ es, (dcells e).length = sz) → es[k]? = some e → ∀ j, j < sz → (flat es)[k * sz + j]? = (dcells e)[j]?
  | [], sz, k, e, _, h, _, _ => by simp at h
  | x :: es, sz, k, e, hs, h, j, hj => by
    have hx : (dcells x).length = sz := hs x (by simp)
    cases k with
    | zero =>
      simp at h
      subst h
      simp only [flat, List.flatMap_cons, Nat.zero_mul, Nat.zero_add]
      rw [List.getElem?_append_left (by omega)]
    | succ k =>
      simp only [List.getElem?_cons_succ] at h
      have := flat_at (es := es) (sz := sz) (k := k) (e := e) (fun e he => hs e (by simp [he])) h j hj
      simp only [flat, List.flatMap_cons] at this ⊢
      rw [List.getElem?_append_right (by rw [hx, Nat.succ_mul]; omega), hx, Nat.succ_mul]
      rw [show k * sz + sz + j - sz = k * sz + j by omega]
      exact this
theorem flat_len : ∀ {es : List D} {sz : Nat}, (∀ e ∈ es, (dcells e).length = sz) → (flat es).length = es.length * sz
  | [], sz, _ => by simp [flat]
  | x :: es, sz, hs => by
    have := flat_len (es := es) (sz := sz) fun e he => hs e (by simp [he])
    simp only [flat, List.flatMap_cons, List.length_append, List.length_cons] at this ⊢
    rw [this, hs x (by simp), Nat.succ_mul]
    omega
theorem elem_of {t : TypeId} {e : TypeId} (h : elemT P t = some e) : P.underlying t = some (.slice e) := by
  unfold elemT at h
  obtain ⟨td, htd, h⟩ := Option.bind_eq_some_iff.1 h
  cases td <;> first | (injection h with h; subst h; exact htd) | cases h
theorem run_indexAddr {t : TypeId} {x i d : D} {vx vi : Value} (hx : Den c ν F w vx x) (hi : Den c ν F w vi i) (h : dindexAddr P t x i = some d) : ∃ u, (Instr.indexAt t vx vi).run P w = .ok u w ∧ Den c ν F w u d := by
  unfold dindexAddr at h
  split at h
  · rename_i e es k n he
    have ht := elem_of he
    split at h
    · rename_i sz hsz
      split at h
      · rename_i hb
        split at h
        · rename_i hcs
          injection h with h
          subst h
          rw [hi.int_]
          have hx' := hx.list_
          cases hx' with
          | list a m cp s _ vs h1 h2 h3 h4 h5 h6 h7 =>
            have hlt : n.toNat < es.length := by omega
            have hget : es[n.toNat]? = some es[n.toNat] := List.getElem?_eq_getElem hlt
            have hgD : es.getD n.toNat .bad = es[n.toNat] := by simp [List.getD, hget]
            rw [hgD] at hcs ⊢
            have hs : s = sz := by rw [← h4 _ (List.getElem_mem hlt), hcs]
            subst hs
            have hpos : vs ≠ [] := by
              intro e0
              rw [e0] at h5
              have hp : 0 < m * s := Nat.mul_pos (by omega) h3
              rw [← h5] at hp
              exact absurd hp (by simp)
            obtain ⟨b, off, rfl, hcell⟩ := h6.resolve_left hpos
            refine ⟨.pointer (some ⟨b, off + n.toNat * s + 0, none⟩), ?_, .pure _ _ (.fix _ b (off + n.toNat * s) 0 ((vs.drop (n.toNat * s)).take s) ?_ ?_ ?_)⟩
            · simp only [Instr.indexAt, asIntOf, Sem.run_bind, Sem.run_pure, Result.andThen_ok, run_underlying ht]
              rw [if_pos (by omega)]
              simp [run_sizeOf_ hsz, addr_add]
            · rw [hcs]
              have : (n.toNat + 1) * s ≤ m * s := Nat.mul_le_mul_right _ (by omega)
              rw [Nat.add_mul, Nat.one_mul] at this
              simp [h5]
              omega
            · intro j v hv
              have hj : j < s := by
                have := (List.getElem?_eq_some_iff.1 hv).1
                simp at this
                omega
              rw [getElem?_drop_take hj] at hv
              have := hcell _ _ hv
              rwa [← Nat.add_assoc] at this
            · intro j v x hv hxx
              have hj : j < s := by
                have := (List.getElem?_eq_some_iff.1 hv).1
                simp at this
                omega
              rw [getElem?_drop_take hj] at hv
              exact h7 _ _ _ hv (by rw [flat_at h4 hget j hj]; exact hxx)
        · cases h
      · cases h
    · cases h
  · rename_i e k g m sz ag kk n he
    have ht := elem_of he
    split at h
    · rename_i hb
      injection h with h
      subst h
      rw [hi.int_]
      obtain ⟨cap, rfl, hg, hn⟩ := hx.row_
      refine ⟨.pointer (some ⟨ν k g, n.toNat * sz, none⟩), ?_, .ptr k g _ hg⟩
      simp only [Instr.indexAt, asIntOf, Sem.run_bind, Sem.run_pure, Result.andThen_ok, run_underlying ht]
      rw [if_pos (by omega)]
      simp [run_sizeOf_ hb.2.2, addr_add]
    · cases h
  · cases h
theorem run_index {t : TypeId} {x i d : D} {vx vi : Value} (hx : Den c ν F w vx x) (hi : Den c ν F w vi i) (h : dindex P t x i = some d) : ∃ u, (Instr.index t vx vi).run P w = .ok u w ∧ Den c ν F w u d := by
  unfold dindex at h
  split at h
  · rename_i l k n ht
    split at h
    · rename_i hb
      injection h with h
      subst h
      rw [hi.int_, hx.str_]
      refine ⟨_, ?_, .pure _ _ (.int _ _)⟩
      have hlt : n.toNat < l.length := by omega
      have hg : (⟨l.toArray⟩ : ByteArray)[n.toNat]? = some l[n.toNat] := by
        rw [getElem?_pos (⟨l.toArray⟩ : ByteArray) n.toNat (by simpa [ByteArray.size] using hlt)]
        rfl
      simp only [Instr.index, asIntOf, Sem.run_bind, Sem.run_pure, Result.andThen_ok, run_underlying ht]
      rw [if_pos hb.1, hg]
      simp [List.getD, List.getElem?_eq_getElem hlt]
    · cases h
  · cases h
end
end Go.Av
