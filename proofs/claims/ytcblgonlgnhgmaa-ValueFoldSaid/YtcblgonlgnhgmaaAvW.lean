/- Operations that make memory: literals of slices, make, append, bytes of a string; in the words of abstract values. Over any program; no conditions. -/
import Derived.Test.YtcblgonlgnhgmaaAvV
set_option linter.unusedVariables false
set_option linter.unusedSimpArgs false
set_option linter.unusedSectionVars false
namespace Go.Av
open Go.RowKit
variable [Gs]

/-- What is fixed lies in blocks that are there. -/
def Lt (F : Nat → Nat → Prop) (w : World) : Prop := ∀ b o, F b o → b < w.heap.size
/-- The first cells of a block, fixed besides. -/
def fixing (F : Nat → Nat → Prop) (g m : Nat) : Nat → Nat → Prop := fun b o => F b o ∨ (b = g ∧ o < m)
/-- A row that may be appended to: the slice begins with the block; what lies behind it is not fixed. -/
def RowAt (P : Program) (F : Nat → Nat → Prop) (w : World) (e : TypeId) (v : Value) (n g : Nat) : Prop :=
  ∃ cap cur i, v = .slice (some ⟨g, 0, none⟩) n cap ∧ w.heap[g]? = some (.cells cur e (0, 0)) ∧ n ≤ cap ∧ P.info? e = some i ∧ cur.size = cap * i.size ∧ ∀ o, n * i.size ≤ o → ¬ F g o
/-- May be appended to: by its row, or for want of room. -/
def Own (P : Program) (F : Nat → Nat → Prop) (w : World) (e : TypeId) (v : Value) (n : Nat) : Option Nat → Prop
  | none => ∃ a, v = .slice a n n
  | some g => RowAt P F w e v n g

section
variable {P : Program} {c : Nat} {ν : Nat → Nat → Nat} {F : Nat → Nat → Prop} {w : World}

theorem ext_alloc (hlt : Lt F w) (o : Obj) (m : Nat) : Ext (fun _ => False) F w (fixing F w.heap.size m) (w.alloc o) :=
  ⟨rfl, rfl, rfl, by simp, fun b hb _ => Below.heap_alloc w o b hb, fun b o h => .inl h, fun b o h => World.cell?_of_block (a := ⟨b, o, none⟩) (Below.heap_alloc w _ b (hlt b o h))⟩
theorem ext_alloc0 (hlt : Lt F w) (o : Obj) : Ext (fun _ => False) F w F (w.alloc o) :=
  ⟨rfl, rfl, rfl, by simp, fun b hb _ => Below.heap_alloc w o b hb, fun b o h => h, fun b o h => World.cell?_of_block (a := ⟨b, o, none⟩) (Below.heap_alloc w _ b (hlt b o h))⟩
theorem lt_alloc (hlt : Lt F w) (o : Obj) (m : Nat) : Lt (fixing F w.heap.size m) (w.alloc o) := by
  rintro b q (h | ⟨rfl, _⟩)
  · have := hlt b q h
    simp
    omega
  · simp
theorem lt_alloc0 (hlt : Lt F w) (o : Obj) : Lt F (w.alloc o) := fun b q h => by
  have := hlt b q h
  simp
  omega
theorem drew_ext {S : Nat → Prop} {F' : Nat → Nat → Prop} {w' : World} (h : Ext S F w.drew F' w') : Ext S F w F' w' := ⟨h.os, h.tape, h.output, h.size, h.block, h.fixed, h.cell⟩

theorem cells_alloc (w : World) (cs : List Value) (e : TypeId) (i : Nat) : (w.alloc (.cells cs.toArray e)).cell? ⟨w.heap.size, i, none⟩ = cs[i]? := by
  have := cell_of_row (w.alloc (.cells cs.toArray e)) w.heap.size i cs.toArray e (0, 0) (heap_alloc_new w _)
  rw [this]
  simp
theorem cells_len : ∀ {vs : List Value} {sz : Nat}, (∀ v ∈ vs, v.cells.size = sz) → (vs.flatMap fun v => v.cells.toList).length = vs.length * sz
  | [], sz, _ => by simp
  | v :: vs, sz, h => by
    have := cells_len (vs := vs) (sz := sz) fun u hu => h u (by simp [hu])
    simp only [List.flatMap_cons, List.length_append, List.length_cons, Nat.succ_mul, this, Array.length_toList, h v (by simp)]
    omega
theorem flat_cons (e : D) (es : List D) : flat (e :: es) = dcells e ++ flat es := by simp [flat]
/-- The parts of a literal, in order. -/
theorem parts_den : ∀ {k sz : Nat} {parts : List (Nat × D)} {vparts : List (Nat × Value)} {es : List D}, vparts.length = parts.length →
    (∀ (i : Nat) (v : Nat × Value) (x : Nat × D), vparts[i]? = some v → parts[i]? = some x → v.1 = x.1 ∧ Den c ν F w v.2 x.2) → dparts k sz parts = some es →
    ∃ vs : List Value, vparts = (vs.zipIdx k).map (fun x => (x.2, x.1)) ∧ vs.length = es.length ∧ (∀ v ∈ vs, v.cells.size = sz) ∧ (∀ e ∈ es, (dcells e).length = sz) ∧
      (∀ u ∈ vs.flatMap (fun v => v.cells.toList), u.oneCell' = true) ∧
      ∀ (i : Nat) (u : Value) (x : D), (vs.flatMap fun v => v.cells.toList)[i]? = some u → (flat es)[i]? = some x → Den0 F w u x
  | _, _, [], [], es, _, _, h => by
    simp only [dparts] at h
    injection h with h
    subst h
    exact ⟨[], rfl, rfl, by simp, by simp, by simp, fun i u x hu => by simp at hu⟩
  | k, sz, (i, d) :: parts, (j, v) :: vparts, es, hl, hp, h => by
    obtain ⟨e1, hd⟩ := hp 0 _ _ rfl rfl
    simp only at e1 hd
    subst e1
    simp only [dparts] at h
    split at h
    · rename_i hc
      obtain ⟨rfl, hc2, hc3⟩ := hc
      obtain ⟨es', hes, rfl⟩ := Option.map_eq_some_iff.1 h
      obtain ⟨vs, e2, h1, h2, h3, h4, h5⟩ := parts_den (k := j + 1) (vparts := vparts) (by simpa using hl) (fun i v x hv hx => hp (i + 1) v x hv hx) hes
      obtain ⟨k1, k2, k3⟩ := (hd.pureB_ hc3).cells
      refine ⟨v :: vs, by simp [e2, List.zipIdx_cons], by simp [h1], ?_, ?_, ?_, ?_⟩
      · intro u hu
        rcases List.mem_cons.1 hu with rfl | hu
        · rw [← hc2, ← k1]; simp
        · exact h2 u hu
      · intro u hu
        rcases List.mem_cons.1 hu with rfl | hu
        · exact hc2
        · exact h3 u hu
      · intro u hu
        simp only [List.flatMap_cons, List.mem_append] at hu
        rcases hu with hu | hu
        · exact k2 u hu
        · exact h4 u hu
      · intro i u x hu hx
        simp only [List.flatMap_cons, flat_cons] at hu hx
        by_cases hi : i < v.cells.toList.length
        · rw [List.getElem?_append_left hi] at hu
          rw [List.getElem?_append_left (by omega)] at hx
          exact k3 _ _ _ hu hx
        · rw [List.getElem?_append_right (by omega)] at hu hx
          rw [← k1] at hx
          exact h5 _ _ _ hu hx
    · cases h
theorem run_buildSlice_ {t : TypeId} {n : Nat} {parts : List (Nat × D)} {vparts : Array (Nat × Value)} {d : D} (hlt : Lt F w) (hl : vparts.toList.length = parts.length)
    (hp : ∀ (i : Nat) (v : Nat × Value) (x : Nat × D), vparts.toList[i]? = some v → parts[i]? = some x → v.1 = x.1 ∧ Den c ν F w v.2 x.2) (h : dbuildSlice P t n parts = some d) :
    ∃ a F' w' es, d = .list es ∧ n = es.length ∧ (Instr.buildSlice t n vparts).run P w = .ok (.slice a n n) w' ∧ Ext (fun _ => False) F w F' w' ∧ Lt F' w' ∧ (∀ b o, F' b o → F b o ∨ w.heap.size ≤ b) ∧ Den0 F' w' (.slice a n n) (.list es) := by
  unfold dbuildSlice at h
  split at h
  · cases h
  rename_i e he
  have ht := elem_of he
  split at h
  · cases h
  · cases h
  rename_i sz hsz0 hsz
  obtain ⟨ie, hie, rfl⟩ := info_of_sizeT hsz
  have hpos : 0 < ie.size := Nat.pos_of_ne_zero fun e0 => hsz0 e0
  split at h
  · rename_i hn
    obtain ⟨hn1, hn2, hn3⟩ := hn
    obtain ⟨es, hes, rfl⟩ := Option.map_eq_some_iff.1 h
    rw [hie] at hn3
    obtain ⟨z, hz⟩ := Option.isSome_iff_exists.1 hn3
    simp only [Option.bind_some] at hz
    obtain ⟨vs, e1, h1, h2, h3, h4, h5⟩ := parts_den (c := c) (ν := ν) (F := F) (w := w) hl hp hes
    have hvn : vs.length = n := by
      rw [← hn1, ← hl, e1]
      simp
    refine ⟨some ⟨w.heap.size, 0, none⟩, fixing F w.heap.size (n * ie.size), w.alloc (.cells (vs.flatMap fun v => v.cells.toList).toArray e), es, rfl, by rw [← h1, hvn], ?_, ext_alloc hlt _ _, lt_alloc hlt _ _, ?_, ?_⟩
    · by_cases h0 : n = 0
      · subst h0
        have hvs : vs = [] := List.length_eq_zero_iff.1 hvn
        subst hvs
        have hvp : vparts = #[] := by
          apply Array.ext'
          rw [e1]
          rfl
        subst hvp
        simp [Instr.buildSlice, run_underlying ht, run_sizeOf_ hsz, newRow, Instr.fill, Array.range_zero']
      · have hp0 : ¬ n * ie.size = 0 := by
          have := Nat.mul_pos (Nat.pos_of_ne_zero h0) hpos
          omega
        refine run_buildSlice w t e n vparts _ ie z ht hie hz (by omega) hp0 ?_
        rw [e1]
        refine Great.fill_whole hpos vs _ h2 ?_
        simp [hvn]
    · rintro b o (h | ⟨rfl, _⟩)
      · exact .inl h
      · exact .inr (Nat.le_refl _)
    · have hE := ext_alloc (w := w) hlt (.cells (vs.flatMap fun v => v.cells.toList).toArray e) (n * ie.size)
      have hfl : (vs.flatMap fun v => v.cells.toList).length = n * ie.size := by
        rw [cells_len h2, hvn]
      refine .list _ n n ie.size es _ (by rw [← h1, hvn]) (Nat.le_refl _) hpos h3 hfl (.inr ⟨w.heap.size, 0, rfl, ?_⟩) ?_
      · intro i v hi
        have hilt : i < n * ie.size := by rw [← hfl]; exact (List.getElem?_eq_some_iff.1 hi).1
        refine ⟨.inr ⟨rfl, by omega⟩, ?_, h4 v (List.mem_of_getElem? hi)⟩
        rw [Nat.zero_add, cells_alloc]
        exact hi
      · intro i v x hv hx
        exact (h5 i v x hv hx).ext hE
  · cases h
theorem infoOk_spec {i : TypeInfo} (h : infoOk i = true) : i.bytes ≤ 4096 ∧ 0 < i.size ∧ ∃ z, i.zero = some z ∧ z.cells.size = i.size := by
  unfold infoOk at h
  simp only [Bool.and_eq_true, decide_eq_true_eq] at h
  obtain ⟨⟨h1, h2⟩, h3⟩ := h
  refine ⟨h1, h2, ?_⟩
  cases hz : i.zero with
  | none => rw [hz] at h3; cases h3
  | some z => rw [hz] at h3; exact ⟨z, rfl, by simpa using h3⟩
theorem run_make_ {t : TypeId} {l d : D} {e : TypeId} {vl vc : Value} (hlt : Lt F w) (hl : Den c ν F w vl l) (hc : Den c ν F w vc d) (h : dmake P t l d = some e) :
    ∃ v w', (Instr.makeSlice t vl vc).run P w = .ok v w' ∧ Ext (fun _ => False) F w F w' ∧ Lt F w' ∧ Den0 F w' v (.list []) ∧ Own P F w' e v 0 (some w.heap.size) := by
  unfold dmake at h
  split at h
  · rename_i e' kl kc n he
    have ht := elem_of he
    split at h
    · rename_i i hi
      split at h
      · rename_i hb
        obtain ⟨hb1, hb2, hb3⟩ := hb
        obtain ⟨hb3, hb4, z, hz, hzs⟩ := infoOk_spec hb3
        injection h with h
        subst h
        · rw [hl.int_, hc.int_]
          have hby : (i.bytes : Int) * n ≤ 281474976710656 := by
            have h1 : (i.bytes : Int) * n ≤ 4096 * n := Int.mul_le_mul_of_nonneg_right (by omega) hb1
            have h2 : (4096 : Int) * n ≤ 4096 * 1073741824 := Int.mul_le_mul_of_nonneg_left hb2 (by decide)
            omega
          have hrun := run_make (P := P) w t e' i z ht hi hz kl kc 0 n (Int.le_refl _) hb1 hby (by omega)
          refine ⟨_, _, hrun, ext_alloc0 hlt _, lt_alloc0 hlt _, ?_, ?_⟩
          · exact .list _ 0 _ 1 [] [] rfl (Nat.zero_le _) (by decide) (fun e he => by simp at he) rfl (.inl rfl) (fun i v x hv => by simp at hv)
          · exact ⟨_, _, i, rfl, heap_alloc_new w _, Nat.zero_le _, hi, size_madeCells _ _, fun o _ hF => Nat.lt_irrefl _ (hlt _ _ hF)⟩
      · cases h
    · cases h
  · cases h
theorem szOk_spec {sz s : Nat} {es : List D} (h : szOk sz es = true) (hs : ∀ e ∈ es, (dcells e).length = s) (hne : es ≠ []) : s = sz := by
  cases es with
  | nil => exact absurd rfl hne
  | cons e es =>
    simp only [szOk, beq_iff_eq] at h
    rw [← hs e (by simp), h]
theorem Den0.list_at {v : Value} {es : List D} {sz : Nat} (h : Den0 F w v (.list es)) (hsz : szOk sz es = true) (hp : 0 < sz) : ∃ a n cp vs, v = .slice a n cp ∧ es.length = n ∧ n ≤ cp ∧ (∀ e ∈ es, (dcells e).length = sz) ∧ vs.length = n * sz ∧
    (vs = [] ∨ ∃ b off, a = some ⟨b, off, none⟩ ∧ CellsAt F w b off vs) ∧ (∀ (i : Nat) (v : Value) (x : D), vs[i]? = some v → (flat es)[i]? = some x → Den0 F w v x) := by
  cases h with
  | list a n cp s _ vs h1 h2 h3 h4 h5 h6 h7 =>
    by_cases hne : es = []
    · subst hne
      simp at h1
      subst h1
      simp at h5
      exact ⟨a, 0, cp, [], rfl, rfl, h2, fun e he => by simp at he, by simp, .inl rfl, fun i v x hv => by simp at hv⟩
    · have := szOk_spec hsz h4 hne
      subst this
      exact ⟨a, n, cp, vs, rfl, h1, h2, h4, h5, h6, h7⟩
theorem cells_add {b off : Nat} {vs : List Value} (h : CellsAt F w b off vs) : ∀ j u, vs[j]? = some u → w.cell? ((⟨b, off, none⟩ : Addr).add j) = some u := fun j u hj => by
  rw [addr_add]
  exact (h j u hj).2.1
theorem den0_mem {vs : List Value} {b off : Nat} (h : CellsAt F w b off vs) : ∀ u ∈ vs, u.oneCell' = true := fun u hu => by
  obtain ⟨i, hi⟩ := List.getElem?_of_mem hu
  exact (h i u hi).2.2
/-- A new row of old and new cells. -/
theorem den_row {es fs : List D} {sz m : Nat} {olds news : List Value} {cap : Nat} {e : TypeId} {rest : List Value} {i : TypeInfo} (hlt : Lt F w) (hi : P.info? e = some i) (hsz : i.size = sz) (hp : 0 < sz)
    (he : ∀ x ∈ es, (dcells x).length = sz) (hf : ∀ x ∈ fs, (dcells x).length = sz) (ho : olds.length = es.length * sz) (hn : news.length = fs.length * sz) (h1 : ∀ u ∈ olds ++ news, u.oneCell' = true)
    (hd : ∀ (i : Nat) (v : Value) (x : D), (olds ++ news)[i]? = some v → (flat (es ++ fs))[i]? = some x → Den0 F w v x) (hm : m = es.length + fs.length) (hc : m ≤ cap) (hr : rest.length = (cap - m) * sz) :
    Ext (fun _ => False) F w (fixing F w.heap.size (m * sz)) (w.alloc (.cells (olds ++ news ++ rest).toArray e)) ∧ Lt (fixing F w.heap.size (m * sz)) (w.alloc (.cells (olds ++ news ++ rest).toArray e)) ∧
    Den0 (fixing F w.heap.size (m * sz)) (w.alloc (.cells (olds ++ news ++ rest).toArray e)) (.slice (some ⟨w.heap.size, 0, none⟩) m cap) (.list (es ++ fs)) ∧
    Own P (fixing F w.heap.size (m * sz)) (w.alloc (.cells (olds ++ news ++ rest).toArray e)) e (.slice (some ⟨w.heap.size, 0, none⟩) m cap) m (some w.heap.size) := by
  have hE := ext_alloc (w := w) hlt (.cells (olds ++ news ++ rest).toArray e) (m * sz)
  have hlen : (olds ++ news).length = m * sz := by rw [List.length_append, ho, hn, hm, Nat.add_mul]
  refine ⟨hE, lt_alloc hlt _ _, ?_, ?_⟩
  · refine .list _ m cap sz (es ++ fs) (olds ++ news) (by simp [hm]) hc hp ?_ hlen (.inr ⟨_, 0, rfl, ?_⟩) ?_
    · intro x hx
      rcases List.mem_append.1 hx with hx | hx
      · exact he x hx
      · exact hf x hx
    · intro j v hj
      have hjl : j < m * sz := by rw [← hlen]; exact (List.getElem?_eq_some_iff.1 hj).1
      refine ⟨.inr ⟨rfl, by omega⟩, ?_, h1 v (List.mem_of_getElem? hj)⟩
      rw [Nat.zero_add, cells_alloc, List.getElem?_append_left (by omega)]
      exact hj
    · intro j v x hv hx
      exact (hd j v x hv hx).ext hE
  · refine ⟨cap, _, i, rfl, heap_alloc_new w _, hc, hi, ?_, ?_⟩
    · have : (olds ++ news ++ rest).length = cap * i.size := by
        rw [List.length_append, hlen, hr, hsz, ← Nat.add_mul]
        congr 1
        omega
      simpa using this
    · intro o ho hF
      rcases hF with hF | ⟨_, hF⟩
      · exact Nat.lt_irrefl _ (hlt _ _ hF)
      · rw [hsz] at ho
        omega
end
end Go.Av
