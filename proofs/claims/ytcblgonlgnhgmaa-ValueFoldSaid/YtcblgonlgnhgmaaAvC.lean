/- Conversions, in the words of abstract values. Over any program; no conditions. -/
import Derived.Test.YtcblgonlgnhgmaaAvA
import Derived.Lib.ConvBytes
set_option linter.unusedVariables false
set_option linter.unusedSimpArgs false
set_option linter.unusedSectionVars false
namespace Go.Av
open Go.RowKit
variable [Gs]

section
variable {P : Program} {c : Nat} {ν : Nat → Nat → Nat} {F : Nat → Nat → Prop} {w : World}

theorem bytesOf_spec : ∀ {es : List D} {l : List UInt8}, bytesOf es = some l → ∃ ns : List Int, es = ns.map (D.int .u8) ∧ l = ns.map (fun n => UInt8.ofNat n.toNat)
  | [], l, h => by simp only [bytesOf] at h; injection h with h; subst h; exact ⟨[], rfl, rfl⟩
  | d :: es, l, h => by
    unfold bytesOf at h
    split at h
    · rename_i e; cases e
    · rename_i n r e
      injection e with e1 e2
      subst e1 e2
      obtain ⟨l', hl', rfl⟩ := Option.map_eq_some_iff.1 h
      obtain ⟨ns, rfl, rfl⟩ := bytesOf_spec hl'
      exact ⟨n :: ns, rfl, rfl⟩
    · cases h
theorem push_bytes : ∀ (ns : List Int) (s : ByteArray), ns.foldl (fun r n => r.push (UInt8.ofNat n.toNat)) s = ⟨(s.data.toList ++ ns.map fun n => UInt8.ofNat n.toNat).toArray⟩
  | [], s => by simp
  | n :: ns, s => by
    simp only [List.foldl_cons]
    rw [push_bytes ns]
    simp [ByteArray.push]
theorem flat_leaf : ∀ {es : List D}, (∀ e ∈ es, dcells e = [e]) → flat es = es
  | [], _ => rfl
  | e :: es, h => by
    have := flat_leaf (es := es) fun x hx => h x (by simp [hx])
    simp only [flat, List.flatMap_cons] at this ⊢
    rw [this, h e (by simp)]
    rfl
theorem run_conv {src dst : TypeId} {x d : D} {vx : Value} (hlt : Lt F w) (hx : Den c ν F w vx x) (h : dconv P src dst x = some d) :
    ∃ v w' F', (convert src dst vx).run P w = .ok v w' ∧ Ext (fun _ => False) F w F' w' ∧ Lt F' w' ∧ (∀ b o, F' b o → F b o ∨ w.heap.size ≤ b) ∧ Den0 F' w' v d := by
  unfold dconv at h
  split at h
  · rename_i u k k' n hs hd
    injection h with h
    subst h
    rw [hx.int_]
    exact ⟨_, w, F, by simp [convert, run_underlying hs, run_underlying hd, Conv.intToInt], Ext.refl _ _ _, hlt, fun b o h => .inl h, .int _ _⟩
  · rename_i u l hs hd
    injection h with h
    subst h
    rw [hx.str_]
    refine ⟨_, w, F, ?_, Ext.refl _ _ _, hlt, fun b o h => .inl h, .str _⟩
    simp [convert, run_underlying hs, run_underlying hd]
  · rename_i e es hs hd
    split at h
    · rename_i he
      obtain ⟨l, hl, rfl⟩ := Option.map_eq_some_iff.1 h
      obtain ⟨ns, rfl, rfl⟩ := bytesOf_spec hl
      have hx' := hx.list_
      cases hx' with
      | list a n cp s _ vs h1 h2 h3 h4 h5 h6 h7 =>
        refine ⟨.string ⟨(ns.map fun n => UInt8.ofNat n.toNat).toArray⟩, w, F, ?_, Ext.refl _ _ _, hlt, fun b o h => .inl h, .str _⟩
        rw [run_convert_bytes_string w src dst e a n cp hs he hd]
        by_cases h0 : ns = []
        · subst h0
          simp at h1
          subst h1
          cases a with
          | none => rfl
          | some a =>
            exact run_bytesToString (P := P) w a 0 cp [] (by simp [loadCells, loadCellsFrom])
        · have hfl : flat (ns.map (D.int .u8)) = ns.map (D.int .u8) := flat_leaf (by simp [dcells])
          have hs1 : s = 1 := by
            cases ns with
            | nil => exact absurd rfl h0
            | cons z zs => rw [← h4 (.int .u8 z) (by simp)]; rfl
          subst hs1
          have hvs : vs = ns.map (Value.int .u8) := by
            apply List.ext_getElem?
            intro i
            by_cases hi : i < vs.length
            · have e1 : vs[i]? = some vs[i] := List.getElem?_eq_getElem hi
              have hin : i < ns.length := by
                have : ns.length = n := by simpa using h1
                omega
              have e2 : (flat (ns.map (D.int .u8)))[i]? = some (.int .u8 ns[i]) := by
                rw [hfl]
                simp [hin]
              have := h7 i _ _ e1 e2
              rw [e1]
              cases hv : vs[i] with
              | int k z =>
                rw [hv] at this
                cases this
                simp [hin]
              | _ => rw [hv] at this; cases this
            · rw [List.getElem?_eq_none (by omega), List.getElem?_eq_none (by simp at h1 ⊢; omega)]
          subst hvs
          have hnn : ns.length = n := by simpa using h1
          obtain ⟨b, off, rfl, hc⟩ := h6.resolve_left (by simpa using h0)
          have hload := run_loadCells_list (P := P) (w := w) ⟨b, off, none⟩ (ns.map (Value.int .u8)) (cells_add hc)
          rw [List.length_map, hnn] at hload
          rw [run_bytesToString (P := P) w ⟨b, off, none⟩ n cp ns hload, push_bytes]
          simp
    · cases h
  · rename_i u e l hs hd
    split at h
    · rename_i he
      injection h with h
      subst h
      rw [hx.str_]
      have hsize : (⟨l.toArray⟩ : ByteArray).size = l.length := by simp [ByteArray.size]
      refine ⟨_, _, fixing F w.heap.size l.length, Lib.run_convert_string_bytes w src dst e ⟨l.toArray⟩ hs hd he, ?_, ?_, ?_, ?_⟩
      · refine ⟨rfl, rfl, rfl, by rw [Lib.bytesWorld_size]; omega, fun b hb _ => Lib.bytesWorld_at_old w e _ b hb, fun b o h => .inl h, fun b o h => ?_⟩
        exact Lib.bytesWorld_old w e _ ⟨b, o, none⟩ (hlt b o h)
      · rintro b o (h | ⟨rfl, _⟩)
        · have := hlt b o h
          rw [Lib.bytesWorld_size]
          omega
        · rw [Lib.bytesWorld_size]
          omega
      · rintro b o (h | ⟨rfl, _⟩)
        · exact .inl h
        · exact .inr (Nat.le_refl _)
      · rw [hsize]
        have hfl : flat (l.map fun b => D.int .u8 b.toNat) = l.map fun b => D.int .u8 b.toNat := flat_leaf (by simp [dcells])
        refine .list _ l.length _ 1 _ (l.map fun b => Value.int .u8 b.toNat) (by simp) (by have := grownCap_ge w l.length 0 e; exact this) (by decide) (by simp [dcells]) (by simp) (.inr ⟨w.heap.size, 0, rfl, ?_⟩) ?_
        · intro i v hv
          have hi : i < l.length := by
            have := (List.getElem?_eq_some_iff.1 hv).1
            simpa using this
          rw [List.getElem?_map, List.getElem?_eq_getElem hi] at hv
          simp at hv
          subst hv
          refine ⟨.inr ⟨rfl, by omega⟩, ?_, rfl⟩
          rw [Nat.zero_add, Lib.bytesWorld_cell w e _ i (by rw [hsize]; exact hi)]
          simp [hi]
        · intro i v x hv hx
          rw [hfl] at hx
          rw [List.getElem?_map] at hv hx
          cases hl : l[i]? with
          | none => rw [hl] at hv; cases hv
          | some b =>
            rw [hl] at hv hx
            simp at hv hx
            subst hv hx
            exact .int _ _
    · cases h
  · cases h
end
end Go.Av
