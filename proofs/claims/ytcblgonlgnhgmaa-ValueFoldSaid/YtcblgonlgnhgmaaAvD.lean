/- Abstract values: what a value of the model reads as, in memory whose fixed cells never turn. Over any program; no conditions. -/
import Derived.WalkKit
import Derived.WalkSpells
import Derived.WalkLawsBesides
import Derived.Lib.Hide
set_option linter.unusedVariables false
set_option linter.unusedSimpArgs false
namespace Go.Av
open Go.RowKit

/-- What a value reads as. -/
inductive D where
  | bad
  | bool (b : Bool)
  | int (k : IntKind) (n : Int)
  | str (l : List UInt8)
  | con (v : Value)
  | list (es : List D)
  | agg (cs : List D)
  | tuple (cs : List D)
  | fix (d : D) (off : Nat)
  | ptr (k g off : Nat)
  | row (k g n sz : Nat) (ag : Bool)
  | iface (t : TypeId) (d : D)
  | func (fn : Fn) (first captured : List D)
  deriving Inhabited

def dcells : D → List D
  | .agg cs => cs
  | d => [d]
def flat (es : List D) : List D := es.flatMap dcells
/-- Values that are their own reading: the nil pointer, the nil interface value, the nil function, the nil map. -/
def isCon : Value → Bool
  | .pointer none | .nilIface | .nilFunc | .map none => true
  | _ => false

/-- Cells from an address on, each of them fixed. -/
def CellsAt (F : Nat → Nat → Prop) (w : World) (b off : Nat) (vs : List Value) : Prop :=
  ∀ (i : Nat) (v : Value), vs[i]? = some v → F b (off + i) ∧ w.cell? ⟨b, off + i, none⟩ = some v ∧ v.oneCell' = true

/-- A value reads as this, by fixed cells alone. -/
inductive Den0 (F : Nat → Nat → Prop) (w : World) : Value → D → Prop
  | bool (b : Bool) : Den0 F w (.bool b) (.bool b)
  | int (k : IntKind) (n : Int) : Den0 F w (.int k n) (.int k n)
  | str (l : List UInt8) : Den0 F w (.string ⟨l.toArray⟩) (.str l)
  | con (v : Value) : isCon v = true → Den0 F w v (.con v)
  | list (a : Option Addr) (n c sz : Nat) (es : List D) (vs : List Value) : es.length = n → n ≤ c → 0 < sz → (∀ e ∈ es, (dcells e).length = sz) → vs.length = n * sz →
      (vs = [] ∨ ∃ b off, a = some ⟨b, off, none⟩ ∧ CellsAt F w b off vs) →
      (∀ (i : Nat) (v : Value) (x : D), vs[i]? = some v → (flat es)[i]? = some x → Den0 F w v x) → Den0 F w (.slice a n c) (.list es)
  | agg (vs : List Value) (cs : List D) : vs.length = cs.length → (∀ v ∈ vs, v.oneCell' = true) → (∀ (i : Nat) (v : Value) (x : D), vs[i]? = some v → cs[i]? = some x → Den0 F w v x) → Den0 F w (.agg vs.toArray) (.agg cs)
  | fix (d : D) (b o off : Nat) (vs : List Value) : vs.length = (dcells d).length → CellsAt F w b o vs →
      (∀ (i : Nat) (v : Value) (x : D), vs[i]? = some v → (dcells d)[i]? = some x → Den0 F w v x) → Den0 F w (.pointer (some ⟨b, o + off, none⟩)) (.fix d off)
  | iface (t : TypeId) (v : Value) (d : D) : Den0 F w v d → Den0 F w (.iface t v) (.iface t d)
  | func (fn : Fn) (fs cs : List Value) (f c : List D) : fs.length = f.length → cs.length = c.length → (∀ (i : Nat) (v : Value) (x : D), fs[i]? = some v → f[i]? = some x → Den0 F w v x) →
      (∀ (i : Nat) (v : Value) (x : D), cs[i]? = some v → c[i]? = some x → Den0 F w v x) → Den0 F w (.func fn fs.toArray cs.toArray) (.func fn f c)

/-- A frame's own view: pointers to variables besides, and tuples. 'ν': which block a variable is. -/
inductive Den (c : Nat) (ν : Nat → Nat → Nat) (F : Nat → Nat → Prop) (w : World) : Value → D → Prop
  | bad (v : Value) : Den c ν F w v .bad
  | pure (v : Value) (d : D) : Den0 F w v d → Den c ν F w v d
  | ptr (k g off : Nat) : g < c → Den c ν F w (.pointer (some ⟨ν k g, off, none⟩)) (.ptr k g off)
  | row (k g n cap sz : Nat) (ag : Bool) : g < c → n ≤ cap → Den c ν F w (.slice (some ⟨ν k g, 0, none⟩) n cap) (.row k g n sz ag)
  | tuple (vs : List Value) (cs : List D) : vs.length = cs.length → (∀ (i : Nat) (v : Value) (x : D), vs[i]? = some v → cs[i]? = some x → Den c ν F w v x) → Den c ν F w (.tuple vs.toArray) (.tuple cs)
  | agg (vs : List Value) (cs : List D) : vs.length = cs.length → (∀ v ∈ vs, v.oneCell' = true) → (∀ (i : Nat) (v : Value) (x : D), vs[i]? = some v → cs[i]? = some x → Den c ν F w v x) → Den c ν F w (.agg vs.toArray) (.agg cs)
  | iface (t : TypeId) (v : Value) (d : D) : Den c ν F w v d → Den c ν F w (.iface t v) (.iface t d)
  | func (fn : Fn) (fs cs : List Value) (f cp : List D) : fs.length = f.length → cs.length = cp.length → (∀ (i : Nat) (v : Value) (x : D), fs[i]? = some v → f[i]? = some x → Den c ν F w v x) →
      (∀ (i : Nat) (v : Value) (x : D), cs[i]? = some v → cp[i]? = some x → Den c ν F w v x) → Den c ν F w (.func fn fs.toArray cs.toArray) (.func fn f cp)

/-- w' is later than w: outside S nothing of what was there has turned; what was fixed still is, and stands. -/
structure Ext (S : Nat → Prop) (F : Nat → Nat → Prop) (w : World) (F' : Nat → Nat → Prop) (w' : World) : Prop where
  os : w'.os = w.os
  tape : w'.tape = w.tape
  output : w'.output = w.output
  size : w.heap.size ≤ w'.heap.size
  block : ∀ b, b < w.heap.size → ¬ S b → w'.heap[b]? = w.heap[b]?
  fixed : ∀ b o, F b o → F' b o
  cell : ∀ b o, F b o → w'.cell? ⟨b, o, none⟩ = w.cell? ⟨b, o, none⟩

section
variable {S S' : Nat → Prop} {F F' F'' : Nat → Nat → Prop} {w w' w'' : World} {ν ν' : Nat → Nat → Nat}

theorem Ext.refl (S : Nat → Prop) (F : Nat → Nat → Prop) (w : World) : Ext S F w F w := ⟨rfl, rfl, rfl, Nat.le_refl _, fun _ _ _ => rfl, fun _ _ h => h, fun _ _ _ => rfl⟩
theorem Ext.trans (h : Ext S F w F' w') (k : Ext S F' w' F'' w'') : Ext S F w F'' w'' :=
  ⟨k.os.trans h.os, k.tape.trans h.tape, k.output.trans h.output, Nat.le_trans h.size k.size, fun b hb hs => (k.block b (Nat.lt_of_lt_of_le hb h.size) hs).trans (h.block b hb hs),
    fun b o hf => k.fixed b o (h.fixed b o hf), fun b o hf => (k.cell b o (h.fixed b o hf)).trans (h.cell b o hf)⟩
theorem Ext.weaken (h : Ext S F w F' w') (hs : ∀ b, b < w.heap.size → S b → S' b) : Ext S' F w F' w' :=
  ⟨h.os, h.tape, h.output, h.size, fun b hb hn => h.block b hb fun hS => hn (hs b hb hS), h.fixed, h.cell⟩
theorem Ext.drew (h : Ext S F w F' w') : Ext S F w F' w'.drew := ⟨h.os, h.tape, h.output, h.size, h.block, h.fixed, h.cell⟩
/-- Blocks that were not there before may be written at will. -/
theorem Ext.late (h : Ext S F w F' w') (k : Ext S' F' w' F'' w'') (hs : ∀ b, S' b → S b ∨ w.heap.size ≤ b) : Ext S F w F'' w'' :=
  ⟨k.os.trans h.os, k.tape.trans h.tape, k.output.trans h.output, Nat.le_trans h.size k.size,
    fun b hb hn => (k.block b (Nat.lt_of_lt_of_le hb h.size) fun hS => (hs b hS).elim hn (fun h => absurd hb (by omega))).trans (h.block b hb hn),
    fun b o hf => k.fixed b o (h.fixed b o hf), fun b o hf => (k.cell b o (h.fixed b o hf)).trans (h.cell b o hf)⟩

theorem CellsAt.ext (h : Ext S F w F' w') {b off : Nat} {vs : List Value} (hc : CellsAt F w b off vs) : CellsAt F' w' b off vs := fun i v hi => by
  obtain ⟨h1, h2, h3⟩ := hc i v hi
  exact ⟨h.fixed _ _ h1, (h.cell _ _ h1).trans h2, h3⟩
theorem Den0.ext (h : Ext S F w F' w') {v : Value} {d : D} (hd : Den0 F w v d) : Den0 F' w' v d := by
  induction hd with
  | bool b => exact .bool b
  | int k n => exact .int k n
  | str l => exact .str l
  | con v hv => exact .con v hv
  | list a n c sz es vs h1 h2 h3 h4 h5 h6 _ ih =>
    exact .list a n c sz es vs h1 h2 h3 h4 h5 (h6.imp id fun ⟨b, off, ha, hc⟩ => ⟨b, off, ha, hc.ext h⟩) ih
  | agg vs cs h1 h2 _ ih => exact .agg vs cs h1 h2 ih
  | fix d b o off vs h1 h2 _ ih => exact .fix d b o off vs h1 (h2.ext h) ih
  | iface t v d _ ih => exact .iface t v d ih
  | func fn fs cs f c h1 h2 _ _ ih1 ih2 => exact .func fn fs cs f c h1 h2 ih1 ih2
theorem Den.ext {c : Nat} (h : Ext S F w F' w') {v : Value} {d : D} (hd : Den c ν F w v d) : Den c ν F' w' v d := by
  induction hd with
  | bad v => exact .bad v
  | pure v d hp => exact .pure v d (hp.ext h)
  | ptr k g off hg => exact .ptr k g off hg
  | row k g n cap sz ag hg hn => exact .row k g n cap sz ag hg hn
  | tuple vs cs h1 _ ih => exact .tuple vs cs h1 ih
  | agg vs cs h1 h2 _ ih => exact .agg vs cs h1 h2 ih
  | iface t v d _ ih => exact .iface t v d ih
  | func fn fs cs f c h1 h2 _ _ ih1 ih2 => exact .func fn fs cs f c h1 h2 ih1 ih2
/-- More variables. -/
theorem Den.more {c c' : Nat} (hν : ∀ k g, g < c → ν' k g = ν k g) (hc : c ≤ c') {v : Value} {d : D} (hd : Den c ν F w v d) : Den c' ν' F w v d := by
  induction hd with
  | bad v => exact .bad v
  | pure v d hp => exact .pure v d hp
  | ptr k g off hg => rw [← hν k g hg]; exact .ptr k g off (Nat.lt_of_lt_of_le hg hc)
  | row k g n cap sz ag hg hn => rw [← hν k g hg]; exact .row k g n cap sz ag (Nat.lt_of_lt_of_le hg hc) hn
  | tuple vs cs h1 _ ih => exact .tuple vs cs h1 ih
  | agg vs cs h1 h2 _ ih => exact .agg vs cs h1 h2 ih
  | iface t v d _ ih => exact .iface t v d ih
  | func fn fs cs f c h1 h2 _ _ ih1 ih2 => exact .func fn fs cs f c h1 h2 ih1 ih2
end

/-- What is known of the program's own variables: how a pointer to each of them reads. -/
class Gs where
  gl : Nat → D
  /-- Which operations make a row that is written to later. -/
  rowAt : Oper → Bool
  /-- Which rows are done with, ahead of a region. -/
  frzAt : List Oper → List Tmp
  /-- Variables of which only so much is known. -/
  gx : List (Nat × (D → Prop)) := []
/-- They read so. -/
def GOK [Gs] (F : Nat → Nat → Prop) (w : World) : Prop :=
  (∀ g, Gs.gl g = .bad ∨ Den0 F w (.pointer (some ⟨g, 0, none⟩)) (Gs.gl g)) ∧ ∀ x ∈ Gs.gx, ∃ d, x.2 d ∧ Den0 F w (.pointer (some ⟨x.1, 0, none⟩)) d
theorem GOK.ext [Gs] {S : Nat → Prop} {F F' : Nat → Nat → Prop} {w w' : World} (h : GOK F w) (hE : Ext S F w F' w') : GOK F' w' :=
  ⟨fun g => (h.1 g).imp id fun hd => hd.ext hE, fun x hx => (h.2 x hx).imp fun _ hd => ⟨hd.1, hd.2.ext hE⟩⟩
end Go.Av
