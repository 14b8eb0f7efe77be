/- Chapter 11: a tree that is being made: what lies in which block. -/
import Derived.Test.YtdbimjpjpgfeeaaDoorAv11da
import Derived.Maps.GroupsBeside
set_option linter.unusedSimpArgs false
set_option linter.unusedVariables false
set_option maxRecDepth 100000
namespace Go.Av
open Go.Proofs Go.RowKit Go.Proofs.YtdbimjpjpgfeeaaDoor Go.Maps
def zf (F : Nat → Nat → Prop) (Z : Nat → Prop) : Nat → Nat → Prop := fun b o => F b o ∨ Z b
def apart (v u : Value) : Prop := v.ownBlock = none ∨ v.ownBlock ≠ u.ownBlock
theorem apart.symm {v u : Value} (h : apart v u) : apart u v := by
  unfold apart at *
  cases hu : u.ownBlock with
  | none => exact .inl rfl
  | some b =>
    refine .inr fun e => ?_
    rcases h with h | h
    · rw [h] at e; cases e
    · exact h (by rw [hu]; exact e.symm)
/-- All but the map's rows. -/
structure NS (F : Nat → Nat → Prop) (w : World) (bm bt : Nat) (Z : Nat → Prop) (vN vE vP : Value) (ns : List D) (zE zP : List Int) (wr : World) : Prop where
  ge : Ge w wr
  hm : w.heap.size ≤ bm
  ht : bt = bm + 1
  htw : bt < wr.heap.size
  z : ∀ b, Z b → bt < b ∧ b < wr.heap.size ∧ vN.ownBlock ≠ some b ∧ vE.ownBlock ≠ some b ∧ vP.ownBlock ≠ some b
  oN : ∃ xs, wr.ownsRow (bt + 1) 26 7 vN ns.length xs ∧ (∀ u ∈ xs, u.oneCell' = true) ∧ ∀ (m : Nat) (v : Value) (x : D), xs[m]? = some v → (flat ns)[m]? = some x → Den0 (zf F Z) wr v x
  oE : wr.ownsInts (bt + 1) 3 .i64 vE zE
  oP : wr.ownsInts (bt + 1) 3 .i64 vP zP
  aNE : apart vN vE
  aNP : apart vN vP
  aEP : apart vE vP
section
variable {F : Nat → Nat → Prop} {w : World} {bm bt : Nat} {Z : Nat → Prop} {vN vE vP : Value} {ns : List D} {zE zP : List Int} {wr W : World} {r : Option Nat}
theorem zden_keep (hlt : Lt F w) (hge : Ge w wr) (hz : ∀ b, Z b → b < wr.heap.size ∧ some b ≠ r) (hr : ∀ b, r = some b → w.heap.size ≤ b) (hg : wr.grownBy W r) {v : Value} {x : D} (h : Den0 (zf F Z) wr v x) : Den0 (zf F Z) W v x := by
  have hne : ∀ b o, zf F Z b o → b < wr.heap.size ∧ some b ≠ r := by
    rintro b o (h | h)
    · have h1 := hlt b o h
      have h2 := hge.size
      refine ⟨by omega, fun e => ?_⟩
      have := hr b e.symm
      omega
    · exact hz b h
  refine h.ext (S := fun b => some b = r) ⟨hg.os, hg.tape, hg.output, hg.size, fun b h hn => hg.block b h hn, fun b o h => h, fun b o h => ?_, fun b es c hf hm => (hg.block b (hne b 0 hf).1 (hne b 0 hf).2).trans hm⟩
  unfold World.cell?
  rw [hg.block b (hne b o h).1 (hne b o h).2]
/-- A block that no part of it is. -/
def Off (bm bt : Nat) (Z : Nat → Prop) (vN vE vP : Value) (b : Nat) : Prop := b = bt ∨ b = bm ∨ (bt < b ∧ ¬ Z b ∧ vN.ownBlock ≠ some b ∧ vE.ownBlock ≠ some b ∧ vP.ownBlock ≠ some b)
theorem own_off {base size n : Nat} {e : TypeId} {v : Value} {xs : List Value} (ho : wr.ownsRow (bt + 1) e size v n xs) (hr : ∀ b, r = some b → b ≤ bt ∨ v.ownBlock ≠ some b) : v.ownBlock = none ∨ v.ownBlock ≠ r := by
  cases hv : v.ownBlock with
  | none => exact .inl rfl
  | some g =>
    refine .inr fun e => ?_
    rcases hr g e.symm with h | h
    · have := (ho.lt g hv).1; omega
    · exact h hv
theorem ge_grown (h : Ge w wr) (hg : wr.grownBy W r) (hr : ∀ b, r = some b → w.heap.size ≤ b) : Ge w W :=
  ⟨hg.os.trans h.os, hg.tape.trans h.tape, hg.output.trans h.output, Nat.le_trans h.size hg.size, fun b hb => (hg.block b (Nat.lt_of_lt_of_le hb h.size) (fun e => by have := hr b e.symm; omega)).trans (h.block b hb)⟩
theorem NS.keep (hlt : Lt F w) (h : NS F w bm bt Z vN vE vP ns zE zP wr) (hg : wr.grownBy W r) (hr : ∀ b, r = some b → Off bm bt Z vN vE vP b) : NS F w bm bt Z vN vE vP ns zE zP W := by
  have hm := h.hm
  have ht := h.ht
  have hrw : ∀ b, r = some b → w.heap.size ≤ b := fun b hb => by rcases hr b hb with h1 | h1 | h1 <;> omega
  have hz : ∀ b, Z b → b < wr.heap.size ∧ some b ≠ r := fun b hb => ⟨(h.z b hb).2.1, fun e => by
    have := (h.z b hb).1
    rcases hr b e.symm with h1 | h1 | h1
    · omega
    · omega
    · exact h1.2.1 hb⟩
  have own : ∀ {e : TypeId} {size n : Nat} {v : Value} {xs : List Value}, (v = vN ∨ v = vE ∨ v = vP) → wr.ownsRow (bt + 1) e size v n xs → W.ownsRow (bt + 1) e size v n xs := fun hv ho => ho.kept hg (own_off (base := 0) ho fun b hb => by
    rcases hr b hb with h1 | h1 | h1
    · exact .inl (by omega)
    · exact .inl (by omega)
    · rcases hv with rfl | rfl | rfl
      · exact .inr h1.2.2.1
      · exact .inr h1.2.2.2.1
      · exact .inr h1.2.2.2.2)
  refine ⟨ge_grown h.ge hg hrw, hm, ht, Nat.lt_of_lt_of_le h.htw hg.size, fun b hb => ⟨(h.z b hb).1, Nat.lt_of_lt_of_le (h.z b hb).2.1 hg.size, (h.z b hb).2.2⟩, ?_, ⟨own (.inr (.inl rfl)) h.oE.1, h.oE.2⟩, ⟨own (.inr (.inr rfl)) h.oP.1, h.oP.2⟩, h.aNE, h.aNP, h.aEP⟩
  obtain ⟨xs, h1, h2, h3⟩ := h.oN
  exact ⟨xs, own (.inl rfl) h1, h2, fun m v x hv hx => zden_keep hlt h.ge hz hrw hg (h3 m v x hv hx)⟩
/-- More that is fixed. -/
theorem NS.fix {Z' : Nat → Prop} (h : NS F w bm bt Z vN vE vP ns zE zP wr) (hZ : ∀ b, Z b → Z' b) (hz : ∀ b, Z' b → bt < b ∧ b < wr.heap.size ∧ vN.ownBlock ≠ some b ∧ vE.ownBlock ≠ some b ∧ vP.ownBlock ≠ some b) : NS F w bm bt Z' vN vE vP ns zE zP wr := by
  obtain ⟨xs, h1, h2, h3⟩ := h.oN
  exact ⟨h.ge, h.hm, h.ht, h.htw, hz, ⟨xs, h1, h2, fun m v x hv hx => (h3 m v x hv hx).grow fun b o h => h.imp id (hZ b)⟩, h.oE, h.oP, h.aNE, h.aNP, h.aEP⟩
theorem apart_new {v v' u : Value} (h : apart v u) (hu : ∀ g, u.ownBlock = some g → g < wr.heap.size) (loc : v'.ownBlock = v.ownBlock ∨ v'.ownBlock = some wr.heap.size) : apart v' u := by
  unfold apart at *
  rcases loc with l | l
  · rw [l]; exact h
  · refine .inr fun e => ?_
    rw [l] at e
    have := hu _ e.symm
    omega
theorem own_lt {base size n : Nat} {e : TypeId} {v : Value} {xs : List Value} (ho : wr.ownsRow base e size v n xs) : ∀ g, v.ownBlock = some g → g < wr.heap.size := fun g hg => (ho.lt g hg).2
theorem off_row {base size n : Nat} {e : TypeId} {v u : Value} {xs : List Value} (ho : wr.ownsRow base e size v n xs) (h : apart u v) : u.ownBlock = none ∨ u.ownBlock ≠ v.ownBlock := h
/-- One node more. -/
theorem NS.appN (hlt : Lt F w) (h : NS F w bm bt Z vN vE vP ns zE zP wr) {v' : Value} {d : D} {xs' : List Value} (hg : wr.grownBy W vN.ownBlock) (loc : v'.ownBlock = vN.ownBlock ∨ v'.ownBlock = some wr.heap.size)
    (ho : W.ownsRow (bt + 1) 26 7 v' (ns ++ [d]).length xs') (h1 : ∀ u ∈ xs', u.oneCell' = true) (hd : ∀ (m : Nat) (v : Value) (x : D), xs'[m]? = some v → (flat (ns ++ [d]))[m]? = some x → Den0 (zf F Z) W v x) : NS F w bm bt Z v' vE vP (ns ++ [d]) zE zP W := by
  obtain ⟨xs, g1, g2, g3⟩ := h.oN
  have hb : ∀ b, vN.ownBlock = some b → w.heap.size ≤ b := fun b hb => by have := (g1.lt b hb).1; have := h.hm; have := h.ht; omega
  refine ⟨ge_grown h.ge hg hb, h.hm, h.ht, Nat.lt_of_lt_of_le h.htw hg.size, fun b hb => ?_, ⟨xs', ho, h1, hd⟩, h.oE.kept hg h.aNE.symm, h.oP.kept hg h.aNP.symm, apart_new h.aNE (own_lt h.oE.1) loc, apart_new h.aNP (own_lt h.oP.1) loc, h.aEP⟩
  have hz := h.z b hb
  refine ⟨hz.1, Nat.lt_of_lt_of_le hz.2.1 hg.size, ?_, hz.2.2.2⟩
  rcases loc with l | l
  · rw [l]; exact hz.2.2.1
  · rw [l]; intro e; injection e with e; omega
theorem zne (h : NS F w bm bt Z vN vE vP ns zE zP wr) {v : Value} (hv : ∀ b, Z b → v.ownBlock ≠ some b) : ∀ b, Z b → b < wr.heap.size ∧ some b ≠ v.ownBlock := fun b hb => ⟨(h.z b hb).2.1, fun e => hv b hb e.symm⟩
theorem NS.appE (hlt : Lt F w) (h : NS F w bm bt Z vN vE vP ns zE zP wr) {v' : Value} {zs : List Int} (hg : wr.grownBy W vE.ownBlock) (loc : v'.ownBlock = vE.ownBlock ∨ v'.ownBlock = some wr.heap.size)
    (ho : W.ownsInts (bt + 1) 3 .i64 v' zs) : NS F w bm bt Z vN v' vP ns zs zP W := by
  obtain ⟨xs, g1, g2, g3⟩ := h.oN
  have hb : ∀ b, vE.ownBlock = some b → w.heap.size ≤ b := fun b hb => by have := (h.oE.1.lt b hb).1; have := h.hm; have := h.ht; omega
  refine ⟨ge_grown h.ge hg hb, h.hm, h.ht, Nat.lt_of_lt_of_le h.htw hg.size, fun b hb => ?_, ⟨xs, g1.kept hg h.aNE, g2, fun m v x hv hx => zden_keep hlt h.ge (zne h fun b hb => (h.z b hb).2.2.2.1) hb hg (g3 m v x hv hx)⟩, ho, h.oP.kept hg h.aEP.symm, (apart_new h.aNE.symm (own_lt g1) loc).symm, h.aNP, apart_new h.aEP (own_lt h.oP.1) loc⟩
  have hz := h.z b hb
  refine ⟨hz.1, Nat.lt_of_lt_of_le hz.2.1 hg.size, hz.2.2.1, ?_, hz.2.2.2.2⟩
  rcases loc with l | l
  · rw [l]; exact hz.2.2.2.1
  · rw [l]; intro e; injection e with e; omega
theorem NS.appP (hlt : Lt F w) (h : NS F w bm bt Z vN vE vP ns zE zP wr) {v' : Value} {zs : List Int} (hg : wr.grownBy W vP.ownBlock) (loc : v'.ownBlock = vP.ownBlock ∨ v'.ownBlock = some wr.heap.size)
    (ho : W.ownsInts (bt + 1) 3 .i64 v' zs) : NS F w bm bt Z vN vE v' ns zE zs W := by
  obtain ⟨xs, g1, g2, g3⟩ := h.oN
  have hb : ∀ b, vP.ownBlock = some b → w.heap.size ≤ b := fun b hb => by have := (h.oP.1.lt b hb).1; have := h.hm; have := h.ht; omega
  refine ⟨ge_grown h.ge hg hb, h.hm, h.ht, Nat.lt_of_lt_of_le h.htw hg.size, fun b hb => ?_, ⟨xs, g1.kept hg h.aNP, g2, fun m v x hv hx => zden_keep hlt h.ge (zne h fun b hb => (h.z b hb).2.2.2.2) hb hg (g3 m v x hv hx)⟩, h.oE.kept hg h.aEP, ho, h.aNE, (apart_new h.aNP.symm (own_lt g1) loc).symm, (apart_new h.aEP.symm (own_lt h.oE.1) loc).symm⟩
  have hz := h.z b hb
  refine ⟨hz.1, Nat.lt_of_lt_of_le hz.2.1 hg.size, hz.2.2.1, hz.2.2.2.1, ?_⟩
  rcases loc with l | l
  · rw [l]; exact hz.2.2.2.2
  · rw [l]; intro e; injection e with e; omega
/-- What the map's rows keep off. -/
def NoB (Z : Nat → Prop) (vN vE vP : Value) (b : Nat) : Prop := Z b ∨ vN.ownBlock = some b ∨ vE.ownBlock = some b ∨ vP.ownBlock = some b
/-- The map with its rows. -/
structure NG (Z : Nat → Prop) (vN vE vP : Value) (bm bt n : Nat) (D : DataW Unit) (wr : World) : Prop where
  gr : wr.ownsGroups Tryd.prog 3 (bt + 1) 3 .i64 bm n D
  sh : wr.Shuns bm (NoB Z vN vE vP)
variable {n : Nat} {D : DataW Unit}
theorem NG.lt (h : NG Z vN vE vP bm bt n D wr) : bm < wr.heap.size := by
  obtain ⟨es, clock, hb, _⟩ := h.gr
  exact (Array.getElem?_eq_some_iff.1 hb).1
theorem NG.keep (h : NG Z vN vE vP bm bt n D wr) (ht : bt = bm + 1) (hg : wr.grownBy W r) (hr : r = none ∨ r = some bt ∨ ∃ b, r = some b ∧ bm < b ∧ NoB Z vN vE vP b) : NG Z vN vE vP bm bt n D W := by
  have hb' : some bm ≠ r := by
    rintro rfl
    rcases hr with h | h | ⟨b, h, h2, _⟩
    · cases h
    · injection h with h; omega
    · injection h with h; omega
  refine ⟨h.gr.kept hg hb' ?_, h.sh.kept hg h.lt hb'⟩
  rcases hr with rfl | rfl | ⟨b, rfl, _, hb⟩
  · intro es clock _ x _
    cases x.val.ownBlock
    · exact .inl rfl
    · exact .inr (by simp)
  · exact h.gr.rowsAbove fun j hj => by injection hj with hj; omega
  · exact h.sh.rowsOff fun j hj => by injection hj with hj; exact hj ▸ hb
theorem NG.reno {Z' : Nat → Prop} {vN' vE' vP' : Value} (h : NG Z vN vE vP bm bt n D wr) (hn : ∀ g, NoB Z' vN' vE' vP' g → NoB Z vN vE vP g ∨ wr.heap.size ≤ g) : NG Z' vN' vE' vP' bm bt n D wr := ⟨h.gr, h.sh.reno h.gr hn⟩
end
end Go.Av
