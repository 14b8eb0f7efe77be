/- The evaluator, in one text: over any program; no conditions but those that each law names. -/
import Derived.WalkKit
import Derived.WalkSpells
import Derived.WalkLawsBesides
import Derived.Lib.Hide
import Derived.ChangeKeysEq
import Derived.Laws.StructEq
import Derived.MapKept
import Derived.Laws.Tables
import Derived.Great.BuildSlice
import Derived.Laws.BytesString
import Derived.Laws.MakeOwn
import Derived.Lib.ConvBytes
set_option linter.unusedSimpArgs false
set_option linter.unusedVariables false
set_option linter.unusedSectionVars false
namespace Go.Av
open Go.RowKit

inductive D where
  | bad
  | bool (b : Bool)
  | int (k : IntKind) (n : Int)
  | str (l : List UInt8)
  | con (v : Value)
  | list (es : List D)
  | agg (cs : List D)
  | tuple (cs : List D)
  | fix (d : D) (off : Nat)
  | ptr (k g off : Nat)
  | row (k g n sz : Nat) (ag : Bool)
  | iface (t : TypeId) (d : D)
  | func (fn : Fn) (first captured : List D)
  | imap (ks : List Int) (ds : List D)
  deriving Inhabited

def dcells : D → List D
  | .agg cs => cs
  | d => [d]
def flat (es : List D) : List D := es.flatMap dcells
def isCon : Value → Bool
  | .pointer none | .nilIface | .nilFunc | .map none => true
  | _ => false

def CellsAt (F : Nat → Nat → Prop) (w : World) (b off : Nat) (vs : List Value) : Prop :=
  ∀ (i : Nat) (v : Value), vs[i]? = some v → F b (off + i) ∧ w.cell? ⟨b, off + i, none⟩ = some v ∧ v.oneCell' = true

def kfind (n : Int) : List Int → List D → D
  | k :: ks, d :: ds => if k = n then d else kfind n ks ds
  | _, _ => .list []
inductive Den0 (F : Nat → Nat → Prop) (w : World) : Value → D → Prop
  | bool (b : Bool) : Den0 F w (.bool b) (.bool b)
  | int (k : IntKind) (n : Int) : Den0 F w (.int k n) (.int k n)
  | str (l : List UInt8) : Den0 F w (.string ⟨l.toArray⟩) (.str l)
  | con (v : Value) : isCon v = true → Den0 F w v (.con v)
  | list (a : Option Addr) (n c sz : Nat) (es : List D) (vs : List Value) : es.length = n → n ≤ c → 0 < sz → (∀ e ∈ es, (dcells e).length = sz) → vs.length = n * sz →
      (vs = [] ∨ ∃ b off, a = some ⟨b, off, none⟩ ∧ CellsAt F w b off vs) →
      (∀ (i : Nat) (v : Value) (x : D), vs[i]? = some v → (flat es)[i]? = some x → Den0 F w v x) → Den0 F w (.slice a n c) (.list es)
  | agg (vs : List Value) (cs : List D) : vs.length = cs.length → (∀ v ∈ vs, v.oneCell' = true) → (∀ (i : Nat) (v : Value) (x : D), vs[i]? = some v → cs[i]? = some x → Den0 F w v x) → Den0 F w (.agg vs.toArray) (.agg cs)
  | fix (d : D) (b o off : Nat) (vs : List Value) : vs.length = (dcells d).length → CellsAt F w b o vs →
      (∀ (i : Nat) (v : Value) (x : D), vs[i]? = some v → (dcells d)[i]? = some x → Den0 F w v x) → Den0 F w (.pointer (some ⟨b, o + off, none⟩)) (.fix d off)
  | iface (t : TypeId) (v : Value) (d : D) : Den0 F w v d → Den0 F w (.iface t v) (.iface t d)
  | func (fn : Fn) (fs cs : List Value) (f c : List D) : fs.length = f.length → cs.length = c.length → (∀ (i : Nat) (v : Value) (x : D), fs[i]? = some v → f[i]? = some x → Den0 F w v x) →
      (∀ (i : Nat) (v : Value) (x : D), cs[i]? = some v → c[i]? = some x → Den0 F w v x) → Den0 F w (.func fn fs.toArray cs.toArray) (.func fn f c)
  | imap (b : Nat) (es : Array MapEntry) (clock : Nat) (ks : List Int) (ds : List D) : w.heap[b]? = some (.map es clock) → F b 0 → (∀ x ∈ es.toList, ∃ m : Int, x.key = .int .i64 m) →
      (∀ n : Int, (∀ x ∈ es.toList, x.key ≠ .int .i64 n) → kfind n ks ds = .list []) →
      (∀ (j : Nat) (x : MapEntry) (n : Int), es.toList[j]? = some x → x.key = .int .i64 n → (∀ (i : Nat) (y : MapEntry), i < j → es.toList[i]? = some y → y.key ≠ .int .i64 n) → Den0 F w x.val (kfind n ks ds)) →
      Den0 F w (.map (some b)) (.imap ks ds)

inductive Den (c : Nat → Nat) (ν : Nat → Nat → Nat) (F : Nat → Nat → Prop) (w : World) : Value → D → Prop
  | bad (v : Value) : Den c ν F w v .bad
  | pure (v : Value) (d : D) : Den0 F w v d → Den c ν F w v d
  | ptr (k g off : Nat) : g < c k → Den c ν F w (.pointer (some ⟨ν k g, off, none⟩)) (.ptr k g off)
  | row (k g n cap sz : Nat) (ag : Bool) : g < c k → n ≤ cap → Den c ν F w (.slice (some ⟨ν k g, 0, none⟩) n cap) (.row k g n sz ag)
  | tuple (vs : List Value) (cs : List D) : vs.length = cs.length → (∀ (i : Nat) (v : Value) (x : D), vs[i]? = some v → cs[i]? = some x → Den c ν F w v x) → Den c ν F w (.tuple vs.toArray) (.tuple cs)
  | agg (vs : List Value) (cs : List D) : vs.length = cs.length → (∀ v ∈ vs, v.oneCell' = true) → (∀ (i : Nat) (v : Value) (x : D), vs[i]? = some v → cs[i]? = some x → Den c ν F w v x) → Den c ν F w (.agg vs.toArray) (.agg cs)
  | iface (t : TypeId) (v : Value) (d : D) : Den c ν F w v d → Den c ν F w (.iface t v) (.iface t d)
  | func (fn : Fn) (fs cs : List Value) (f cp : List D) : fs.length = f.length → cs.length = cp.length → (∀ (i : Nat) (v : Value) (x : D), fs[i]? = some v → f[i]? = some x → Den c ν F w v x) →
      (∀ (i : Nat) (v : Value) (x : D), cs[i]? = some v → cp[i]? = some x → Den c ν F w v x) → Den c ν F w (.func fn fs.toArray cs.toArray) (.func fn f cp)

structure Ext (S : Nat → Prop) (F : Nat → Nat → Prop) (w : World) (F' : Nat → Nat → Prop) (w' : World) : Prop where
  os : w'.os = w.os
  tape : w'.tape = w.tape
  output : w'.output = w.output
  size : w.heap.size ≤ w'.heap.size
  block : ∀ b, b < w.heap.size → ¬ S b → w'.heap[b]? = w.heap[b]?
  fixed : ∀ b o, F b o → F' b o
  cell : ∀ b o, F b o → w'.cell? ⟨b, o, none⟩ = w.cell? ⟨b, o, none⟩
  maps : ∀ b es clock, F b 0 → w.heap[b]? = some (.map es clock) → w'.heap[b]? = some (.map es clock)

section
variable {S S' : Nat → Prop} {F F' F'' : Nat → Nat → Prop} {w w' w'' : World} {ν ν' : Nat → Nat → Nat}

theorem Ext.refl (S : Nat → Prop) (F : Nat → Nat → Prop) (w : World) : Ext S F w F w := ⟨rfl, rfl, rfl, Nat.le_refl _, fun _ _ _ => rfl, fun _ _ h => h, fun _ _ _ => rfl, fun _ _ _ _ h => h⟩
theorem Ext.trans (h : Ext S F w F' w') (k : Ext S F' w' F'' w'') : Ext S F w F'' w'' :=
  ⟨k.os.trans h.os, k.tape.trans h.tape, k.output.trans h.output, Nat.le_trans h.size k.size, fun b hb hs => (k.block b (Nat.lt_of_lt_of_le hb h.size) hs).trans (h.block b hb hs),
    fun b o hf => k.fixed b o (h.fixed b o hf), fun b o hf => (k.cell b o (h.fixed b o hf)).trans (h.cell b o hf), fun b es c hf hm => k.maps b es c (h.fixed b 0 hf) (h.maps b es c hf hm)⟩
theorem Ext.weaken (h : Ext S F w F' w') (hs : ∀ b, b < w.heap.size → S b → S' b) : Ext S' F w F' w' :=
  ⟨h.os, h.tape, h.output, h.size, fun b hb hn => h.block b hb fun hS => hn (hs b hb hS), h.fixed, h.cell, h.maps⟩
theorem Ext.drew (h : Ext S F w F' w') : Ext S F w F' w'.drew := ⟨h.os, h.tape, h.output, h.size, h.block, h.fixed, h.cell, h.maps⟩
theorem Ext.late (h : Ext S F w F' w') (k : Ext S' F' w' F'' w'') (hs : ∀ b, S' b → S b ∨ w.heap.size ≤ b) : Ext S F w F'' w'' :=
  ⟨k.os.trans h.os, k.tape.trans h.tape, k.output.trans h.output, Nat.le_trans h.size k.size,
    fun b hb hn => (k.block b (Nat.lt_of_lt_of_le hb h.size) fun hS => (hs b hS).elim hn (fun h => absurd hb (by omega))).trans (h.block b hb hn),
    fun b o hf => k.fixed b o (h.fixed b o hf), fun b o hf => (k.cell b o (h.fixed b o hf)).trans (h.cell b o hf), fun b es c hf hm => k.maps b es c (h.fixed b 0 hf) (h.maps b es c hf hm)⟩

theorem CellsAt.ext (h : Ext S F w F' w') {b off : Nat} {vs : List Value} (hc : CellsAt F w b off vs) : CellsAt F' w' b off vs := fun i v hi => by
  obtain ⟨h1, h2, h3⟩ := hc i v hi
  exact ⟨h.fixed _ _ h1, (h.cell _ _ h1).trans h2, h3⟩
theorem Den0.ext (h : Ext S F w F' w') {v : Value} {d : D} (hd : Den0 F w v d) : Den0 F' w' v d := by
  induction hd with
  | bool b => exact .bool b
  | int k n => exact .int k n
  | str l => exact .str l
  | con v hv => exact .con v hv
  | list a n c sz es vs h1 h2 h3 h4 h5 h6 _ ih =>
    exact .list a n c sz es vs h1 h2 h3 h4 h5 (h6.imp id fun ⟨b, off, ha, hc⟩ => ⟨b, off, ha, hc.ext h⟩) ih
  | agg vs cs h1 h2 _ ih => exact .agg vs cs h1 h2 ih
  | fix d b o off vs h1 h2 _ ih => exact .fix d b o off vs h1 (h2.ext h) ih
  | iface t v d _ ih => exact .iface t v d ih
  | func fn fs cs f c h1 h2 _ _ ih1 ih2 => exact .func fn fs cs f c h1 h2 ih1 ih2
  | imap b es clock ks ds h1 h2 h3 h4 _ ih => exact .imap b es clock ks ds (h.maps _ _ _ h2 h1) (h.fixed _ _ h2) h3 h4 ih
theorem Den.ext {c : Nat → Nat} (h : Ext S F w F' w') {v : Value} {d : D} (hd : Den c ν F w v d) : Den c ν F' w' v d := by
  induction hd with
  | bad v => exact .bad v
  | pure v d hp => exact .pure v d (hp.ext h)
  | ptr k g off hg => exact .ptr k g off hg
  | row k g n cap sz ag hg hn => exact .row k g n cap sz ag hg hn
  | tuple vs cs h1 _ ih => exact .tuple vs cs h1 ih
  | agg vs cs h1 h2 _ ih => exact .agg vs cs h1 h2 ih
  | iface t v d _ ih => exact .iface t v d ih
  | func fn fs cs f c h1 h2 _ _ ih1 ih2 => exact .func fn fs cs f c h1 h2 ih1 ih2
theorem Den.more {c c' : Nat → Nat} (hν : ∀ k g, g < c k → ν' k g = ν k g) (hc : ∀ k, c k ≤ c' k) {v : Value} {d : D} (hd : Den c ν F w v d) : Den c' ν' F w v d := by
  induction hd with
  | bad v => exact .bad v
  | pure v d hp => exact .pure v d hp
  | ptr k g off hg => rw [← hν k g hg]; exact .ptr k g off (Nat.lt_of_lt_of_le hg (hc k))
  | row k g n cap sz ag hg hn => rw [← hν k g hg]; exact .row k g n cap sz ag (Nat.lt_of_lt_of_le hg (hc k)) hn
  | tuple vs cs h1 _ ih => exact .tuple vs cs h1 ih
  | agg vs cs h1 h2 _ ih => exact .agg vs cs h1 h2 ih
  | iface t v d _ ih => exact .iface t v d ih
  | func fn fs cs f c h1 h2 _ _ ih1 ih2 => exact .func fn fs cs f c h1 h2 ih1 ih2
end

class Gs where
  gl : Nat → D
  /-- Which operations make a row that is written to later. -/
  rowAt : Oper → Bool
  /-- Which rows are done with, ahead of a region. -/
  frzAt : List Oper → List Tmp
  /-- Variables of which only so much is known. -/
  gx : List (Nat × (D → Prop)) := []
  /-- Types whose values hold no lists. -/
  noEat : TypeId → Bool := fun _ => false
  /-- Variables that hold a value of their own. -/
  gv : List (Nat × Value) := []
  /-- Calls in regions that draw their order which stand at their place in each (they may turn a variable). -/
  barC : Oper → Bool := fun _ => false
  /-- Calls in such regions that are handed one variable, which nothing beside them looks at; which one. -/
  callK : Oper → Option Nat := fun _ => none
def GOK [Gs] (F : Nat → Nat → Prop) (w : World) : Prop :=
  (∀ g, Gs.gl g = .bad ∨ Den0 F w (.pointer (some ⟨g, 0, none⟩)) (Gs.gl g)) ∧ (∀ x ∈ Gs.gx, ∃ d, x.2 d ∧ Den0 F w (.pointer (some ⟨x.1, 0, none⟩)) d) ∧ ∀ x ∈ Gs.gv, F x.1 0 ∧ w.cell? ⟨x.1, 0, none⟩ = some x.2
theorem GOK.ext [Gs] {S : Nat → Prop} {F F' : Nat → Nat → Prop} {w w' : World} (h : GOK F w) (hE : Ext S F w F' w') : GOK F' w' :=
  ⟨fun g => (h.1 g).imp id fun hd => hd.ext hE, fun x hx => (h.2.1 x hx).imp fun _ hd => ⟨hd.1, hd.2.ext hE⟩, fun x hx => ⟨hE.fixed _ _ (h.2.2 x hx).1, (hE.cell _ _ (h.2.2 x hx).1).trans (h.2.2 x hx).2⟩⟩
end Go.Av
namespace Go.Av
open Go.RowKit
variable [Gs]

inductive Room where
  | no
  | own (e : TypeId)
  | full
  | fresh
  deriving Inhabited, DecidableEq

structure Bx where
  gen : Nat
  cells : List D
  rooms : List Room
  deriving Inhabited

structure St where
  slot : Nat → D
  room : Nat → List Room
  box : Nat → Option Bx
  ctr : Nat → Nat

def upd {α : Type} (f : Nat → α) (k : Nat) (v : α) (j : Nat) : α := if j = k then v else f j
def St.put (s : St) : Option Tmp → D → List Room → St
  | none, _, _ => s
  | some k, d, r => { s with slot := upd s.slot k d, room := upd s.room k r }
def St.demote (s : St) : Option (Tmp × Option Nat) → St
  | none => s
  | some (k, none) => { s with room := upd s.room k [] }
  | some (k, some i) => { s with room := upd s.room k ((s.room k).set i .no) }
def St.setBox (s : St) (k : Nat) (b : Option Bx) : St := { s with box := upd s.box k b }

def cval1 : Value → D
  | .bool b => .bool b
  | .int k n => .int k n
  | .string s => .str s.data.toList
  | .slice none 0 0 => .list []
  | .pointer none => .con (.pointer none)
  | .nilIface => .con .nilIface
  | .nilFunc => .con .nilFunc
  | .map none => .con (.map none)
  | _ => .bad
def cval : Value → D
  | .agg vs => if vs.toList.all (·.oneCell') then .agg (vs.toList.map cval1) else .bad
  | v => cval1 v

def get (slot : Nat → D) : Operand → D
  | .tmp t => slot t
  | .const v => cval v
  | .global g => Gs.gl g
  | .func f => .func (.func f) [] []
def nilR : Value → Room
  | .slice none 0 0 => .full
  | _ => .no
def vroom : Value → List Room
  | .slice none 0 0 => [.full]
  | .agg vs => if vs.toList.all (·.oneCell') then vs.toList.map nilR else []
  | _ => []
def croom : Operand → List Room
  | .const v => vroom v
  | _ => []
def clearR : List Room → Nat → Nat → List Room
  | [], _, _ => []
  | r :: rs, 0, 0 => r :: rs
  | _ :: rs, 0, n + 1 => .no :: clearR rs 0 n
  | r :: rs, off + 1, n => r :: clearR rs off n
def padR (rs : List Room) (n : Nat) : List Room := rs ++ List.replicate (n - rs.length) .no
def putR (rs : List Room) (off n : Nat) (qs : List Room) : List Room := (padR rs off).take off ++ (padR qs n).take n ++ rs.drop (off + n)

def aggOf (P : Program) (t : TypeId) : Option Bool := (P.underlying t).map fun | .struct _ | .array _ _ => true | _ => false
def sizeT (P : Program) (t : TypeId) : Option Nat := (P.info? t).map (·.size)
def dpart (P : Program) (t : TypeId) (cs : List D) (off : Nat) : Option D :=
  match aggOf P t, sizeT P t with
  | some true, some n => if off + n ≤ cs.length then some (.agg ((cs.drop off).take n)) else none
  | some false, _ => cs[off]?
  | _, _ => none
def leafN : Nat → D → Bool
  | _, .bool _ | _, .int _ _ | _, .str _ | _, .con _ | _, .list _ | _, .fix _ _ | _, .imap _ _ => true
  | n + 1, .iface _ d => leafN n d
  | n + 1, .func _ f c => f.all (leafN n) && c.all (leafN n)
  | _, _ => false
def leaf (d : D) : Bool := leafN 6 d
def pureB : D → Bool
  | .agg cs => cs.all leaf
  | d => leaf d

def dIntBin (op : BinOp) (k : IntKind) (a b : Int) : Option D :=
  match op with
  | .add => some (.int k (k.wrap (a + b)))
  | .sub => some (.int k (k.wrap (a - b)))
  | .mul => some (.int k (k.wrap (a * b)))
  | .quo => if b = 0 then none else some (.int k (k.wrap (a.tdiv b)))
  | .rem => if b = 0 then none else some (.int k (a.tmod b))
  | .and => some (.int k (k.wrap ((BitVec.ofInt k.bits a &&& BitVec.ofInt k.bits b).toNat)))
  | .or => some (.int k (k.wrap ((BitVec.ofInt k.bits a ||| BitVec.ofInt k.bits b).toNat)))
  | .xor => some (.int k (k.wrap ((BitVec.ofInt k.bits a ^^^ BitVec.ofInt k.bits b).toNat)))
  | .andNot => some (.int k (k.wrap ((BitVec.ofInt k.bits a &&& ~~~ BitVec.ofInt k.bits b).toNat)))
  | .eql => some (.bool (a == b))
  | .neq => some (.bool (a != b))
  | .lss => some (.bool (decide (a < b)))
  | .leq => some (.bool (decide (a ≤ b)))
  | .gtr => some (.bool (decide (a > b)))
  | .geq => some (.bool (decide (a ≥ b)))
  | _ => none
def dShift (op : BinOp) (k : IntKind) (a b : Int) : Option D :=
  if b < 0 then none else
  match op with
  | .shl => some (.int k (k.wrap (a * 2 ^ (min b.toNat k.bits))))
  | .shr => some (.int k (a.fdiv (2 ^ (min b.toNat k.bits))))
  | _ => none
def dStrBin (op : BinOp) (a b : List UInt8) : Option D :=
  match op with
  | .add => if a.length + b.length ≤ 1099511627776 then some (.str (a ++ b)) else none
  | .eql => some (.bool (a == b))
  | .neq => some (.bool (!(a == b)))
  | .lss => some (.bool (Op.bytesLess a b))
  | .leq => some (.bool (Op.bytesLess a b || a == b))
  | .gtr => some (.bool (!(Op.bytesLess a b || a == b)))
  | .geq => some (.bool (!Op.bytesLess a b))
  | _ => none
def dNilEq (lit : Bool) : D → D → Option Bool
  | .con .nilIface, .con .nilIface => if lit then some true else none
  | .con (.pointer none), .con (.pointer none) => some true
  | .con (.pointer none), .fix _ _ | .fix _ _, .con (.pointer none) | .con (.pointer none), .ptr _ _ _ | .ptr _ _ _, .con (.pointer none) => some false
  | .con .nilIface, .iface _ _ | .iface _ _, .con .nilIface => some false
  | .con .nilFunc, .func _ _ _ | .func _ _ _, .con .nilFunc => some false
  | _, _ => none
def shapeOk (P : Program) (t : TypeId) : D → D → Bool
  | .con (.pointer none), _ | _, .con (.pointer none) => (match P.underlying t with | some (.pointer _) => true | _ => false)
  | .con .nilFunc, _ | _, .con .nilFunc => (match P.underlying t with | some (.func _ _ _) => true | _ => false)
  | _, _ => (match P.underlying t with | some (.interface _) => true | _ => false)
def isIntD : Option TypeDesc → Bool | some (.int _) => true | _ => false
def isStrD : Option TypeDesc → Bool | some .string => true | _ => false
def isBoolD : Option TypeDesc → Bool | some .bool => true | _ => false
def eqLeaf (P : Program) (t : TypeId) : D → D → Option Bool
  | .int k a, .int k' b => if k = k' ∧ isIntD (P.underlying t) = true then some (a == b) else none
  | .str a, .str b => if isStrD (P.underlying t) = true then some (a == b) else none
  | .bool a, .bool b => if isBoolD (P.underlying t) = true then some (a == b) else none
  | _, _ => none
def eqFs (P : Program) (xs ys : List D) : List Field → Option Bool
  | [] => some true
  | f :: fs => if f.name = "_" then none else match xs[f.offset]?, ys[f.offset]? with
    | some x, some y => (match eqLeaf P f.type x y with | some true => eqFs P xs ys fs | r => r)
    | _, _ => none
def subT (P : Program) (f : Field) : Bool := match P.underlying f.type with | some (.struct _) => true | _ => false
def eqSub (P : Program) (f : Field) (xs ys : List D) : Option Bool := match P.underlying f.type with
  | some (.struct gs) => (match sizeT P f.type with
    | some n => if f.offset + n ≤ xs.length ∧ f.offset + n ≤ ys.length ∧ P.stoodInHeld f.type = false then eqFs P ((xs.drop f.offset).take n) ((ys.drop f.offset).take n) gs.toList else none
    | none => none)
  | _ => (match xs[f.offset]?, ys[f.offset]? with
    | some x, some y => eqLeaf P f.type x y
    | _, _ => none)
def eqFs1 (P : Program) (xs ys : List D) : List Field → Option Bool
  | [] => some true
  | f :: fs => if f.name = "_" then none else (match eqSub P f xs ys with | some true => eqFs1 P xs ys fs | r => r)
def dStructEq (P : Program) (t : TypeId) (xs ys : List D) : Option Bool :=
  match P.underlying t with
  | some (.struct fs) => if P.stoodInHeld t = false ∧ P.eqGuardType P.depth t = false then (if fs.toList.any (subT P) = true then eqFs1 P xs ys fs.toList else eqFs P xs ys fs.toList) else none
  | _ => none
def dbin (P : Program) (lit : Bool) (op : BinOp) (t : TypeId) (x y : D) : Option D :=
  match op, x, y with
  | .shl, .int k a, .int _ b => dShift .shl k a b
  | .shr, .int k a, .int _ b => dShift .shr k a b
  | op, .int k a, .int k' b => if k = k' then dIntBin op k a b else none
  | op, .str a, .str b => dStrBin op a b
  | .eql, .bool a, .bool b => if (match P.underlying t with | some .bool => true | _ => false) then some (.bool (a == b)) else none
  | .neq, .bool a, .bool b => if (match P.underlying t with | some .bool => true | _ => false) then some (.bool (!(a == b))) else none
  | .eql, .agg xs, .agg ys => (dStructEq P t xs ys).map .bool
  | .neq, .agg xs, .agg ys => (dStructEq P t xs ys).map fun b => .bool (!b)
  | .eql, x, y => if shapeOk P t x y then (dNilEq lit x y).map .bool else none
  | .neq, x, y => if shapeOk P t x y then (dNilEq lit x y).map fun b => .bool (!b) else none
  | _, _, _ => none
def dun (op : UnOp) (x : D) : Option D :=
  match op, x with
  | .neg, .int k n => some (.int k (k.wrap (0 - n)))
  | .not, .bool b => some (.bool (!b))
  | _, _ => none
def bytesOf : List D → Option (List UInt8)
  | [] => some []
  | .int .u8 n :: r => (bytesOf r).map (UInt8.ofNat n.toNat :: ·)
  | _ => none
def dconv (P : Program) (src dst : TypeId) (x : D) : Option D :=
  match P.underlying src, P.underlying dst, x with
  | some _, some (.int k), .int _ n => some (.int k (k.wrap n))
  | some _, some .string, .str l => some (.str l)
  | some (.slice e), some .string, .list es => (match P.underlying e with | some (.int .u8) => (bytesOf es).map .str | _ => none)
  | some _, some (.slice e), .str l => (match P.underlying e with | some (.int .u8) => some (.list (l.map fun b => .int .u8 b.toNat)) | _ => none)
  | _, _, _ => none
def fieldOf (P : Program) (s : TypeId) (i : Nat) : Option Field := (P.underlying s).bind fun | .struct fs => fs[i]? | _ => none
def dfieldAddr (P : Program) (s : TypeId) (x : D) (i : Nat) : Option D :=
  match fieldOf P s i with
  | none => none
  | some f => match sizeT P f.type with
    | none | some 0 => none
    | some _ => match x with
      | .fix d off => some (.fix d (off + f.offset))
      | .ptr k g off => some (.ptr k g (off + f.offset))
      | _ => none
def dfield (P : Program) (s : TypeId) (x : D) (i : Nat) : Option D :=
  match fieldOf P s i, x with
  | some f, .agg cs => dpart P f.type cs f.offset
  | _, _ => none
def elemT (P : Program) (t : TypeId) : Option TypeId := (P.underlying t).bind fun | .slice e => some e | _ => none
def dindexAddr (P : Program) (t : TypeId) (x i : D) : Option D :=
  match elemT P t, x, i with
  | some e, .list es, .int _ n => (match sizeT P e with
    | some sz => if 0 ≤ n ∧ n < es.length then (if (dcells (es.getD n.toNat .bad)).length = sz then some (.fix (es.getD n.toNat .bad) 0) else none) else none
    | none => none)
  | some e, .row k g m sz _, .int _ n => if 0 ≤ n ∧ n < m ∧ sizeT P e = some sz then some (.ptr k g (n.toNat * sz)) else none
  | none, .fix d off, .int _ n => (match P.underlying t with
    | some (.array m e) => (match sizeT P e with
      | some sz => if 0 ≤ n ∧ n < m then some (.fix d (off + n.toNat * sz)) else none
      | none => none)
    | _ => none)
  | none, .ptr k g off, .int _ n => (match P.underlying t with
    | some (.array m e) => (match sizeT P e with
      | some sz => if 0 ≤ n ∧ n < m then some (.ptr k g (off + n.toNat * sz)) else none
      | none => none)
    | _ => none)
  | _, _, _ => none
def dindex (P : Program) (t : TypeId) (x i : D) : Option D :=
  match P.underlying t, x, i with
  | some .string, .str l, .int _ n => if 0 ≤ n ∧ n < l.length then some (.int .u8 ((l.getD n.toNat 0).toNat)) else none
  | some (.array m e), .agg cs, .int _ n => (match sizeT P e with
    | some sz => if 0 ≤ n ∧ n < m then dpart P e cs (n.toNat * sz) else none
    | none => none)
  | _, _, _ => none
def isNilSl : Option Value → Bool | some (.slice none 0 0) => true | _ => false
def isI64 : Option TypeDesc → Bool | some (.int .i64) => true | _ => false
def dlookup (P : Program) (t : TypeId) (x i : D) : Option D :=
  match P.underlying t, x, i with
  | some (.map k e), .imap ks ds, .int .i64 n => if isI64 (P.underlying k) = true ∧ isNilSl ((P.info? e).bind (·.zero)) = true then some (kfind n ks ds) else none
  | _, _, _ => none
def dbound (x : D) (hi : Nat) : Option Nat :=
  match x with
  | .int _ n => if 0 ≤ n ∧ n ≤ hi then some n.toNat else none
  | _ => none
def szOk (sz : Nat) : List D → Bool
  | [] => true
  | e :: _ => (dcells e).length == sz
def dopt (o : Option D) (y z : Nat) : Option Nat := match o with | some d => dbound d y | none => some z
def notAgg : D → Bool
  | .agg _ => false
  | _ => true
def dslice (P : Program) (t : TypeId) (x : D) (lo hi mx : Option D) : Option D :=
  match P.underlying t, x, mx with
  | some (.slice e), .list es, none => if (match sizeT P e with | some sz => szOk sz es | none => false) = true then
    (dopt hi es.length es.length).bind fun h => (dopt lo h 0).map fun l => .list ((es.take h).drop l) else none
  | some .string, .str s, none => (dopt hi s.length s.length).bind fun h => (dopt lo h 0).map fun l => .str ((s.take h).drop l)
  | some (.slice e), .list es, some m => if (match sizeT P e with | some sz => szOk sz es | none => false) = true ∧ dbound m es.length = some es.length ∧ hi.isSome = true then
    (dopt hi es.length es.length).bind fun h => (dopt lo h 0).map fun l => .list ((es.take h).drop l) else none
  | some (.array n e), .fix (.agg cs) 0, none => if lo.isSome = false ∧ hi.isSome = false ∧ sizeT P e = some 1 ∧ cs.length = n ∧ 0 < n ∧ cs.all notAgg = true then some (.list cs) else none
  | _, _, _ => none
def okPart : D → Bool
  | .bad | .tuple _ => false
  | _ => true
def dfill (place : Nat → Option (Nat × Nat)) : List D → List (Nat × D) → Option (List D)
  | cells, [] => some cells
  | cells, (i, d) :: rest => match place i with
    | none => none
    | some (off, size) => if (dcells d).length = size ∧ off + size ≤ cells.length ∧ okPart d = true then dfill place (cells.take off ++ dcells d ++ cells.drop (off + size)) rest else none
def zeroCells : Value → Option (List D)
  | .agg vs => if vs.toList.all (·.oneCell') then some (vs.toList.map cval1) else none
  | .tuple _ => none
  | v => some [cval1 v]
def zeroOf (P : Program) (t : TypeId) : Option (List D) := (P.info? t).bind fun i => i.zero.bind zeroCells
def places (P : Program) (fs : Array Field) : Option (List (Nat × Nat)) := fs.toList.mapM fun f => (P.info? f.type).map fun i => (f.offset, i.size)
def dbuild (P : Program) (t : TypeId) (parts : List (Nat × D)) : Option D :=
  match P.underlying t, zeroOf P t with
  | some (.struct fs), some zero => (places P fs).bind fun ps => (dfill (ps[·]?) zero parts).map .agg
  | _, _ => none
def zrooms (P : Program) (t : TypeId) : List Room := match (P.info? t).bind (·.zero) with | some v => vroom v | none => []
def clearPs (place : Nat → Option (Nat × Nat)) : List Room → List Nat → List Room
  | rs, [] => rs
  | rs, i :: l => match place i with
    | none => []
    | some (off, size) => clearPs place (clearR rs off size) l
def buildR (P : Program) (t : TypeId) (l : List Nat) : List Room :=
  match P.underlying t with
  | some (.struct fs) => (match places P fs with | some ps => clearPs (ps[·]?) (zrooms P t) l | none => [])
  | _ => []
def dparts : Nat → Nat → List (Nat × D) → Option (List D)
  | _, _, [] => some []
  | k, sz, (i, d) :: rest => if i = k ∧ (dcells d).length = sz ∧ pureB d = true then (dparts (k + 1) sz rest).map (d :: ·) else none
def dbuildSlice (P : Program) (t : TypeId) (n : Nat) (parts : List (Nat × D)) : Option D :=
  match elemT P t with
  | none => none
  | some e => match sizeT P e with
    | none | some 0 => none
    | some sz => if parts.length = n ∧ n * sz ≤ 65536 ∧ ((P.info? e).bind (·.zero)).isSome = true then (dparts 0 sz parts).map .list else none
def infoOk (i : TypeInfo) : Bool := decide (i.bytes ≤ 4096) && decide (0 < i.size) && (match i.zero with | some z => z.cells.size == i.size | none => false)
def dmake (P : Program) (t : TypeId) (l c : D) : Option TypeId :=
  match elemT P t, l, c with
  | some e, .int _ 0, .int _ n => (match P.info? e with | some i => if 0 ≤ n ∧ n ≤ 1073741824 ∧ infoOk i = true then some e else none | none => none)
  | _, _, _ => none
def lenOk (n b : Nat) : Bool := decide (n ≤ 1073741824) || (decide (n ≤ 140737488355328) && decide (n * b ≤ 140737488355328))
theorem lenOk_small {n b : Nat} (h : n ≤ 1073741824) : lenOk n b = true := by simp [lenOk, h]
theorem lenOk_spec {n b : Nat} (h : lenOk n b = true) (hb : b ≤ 4096) : n ≤ 140737488355328 ∧ n * b ≤ 140737488355328 := by
  unfold lenOk at h
  simp only [Bool.or_eq_true, Bool.and_eq_true, decide_eq_true_eq] at h
  rcases h with h | h
  · have : n * b ≤ 1073741824 * 4096 := Nat.mul_le_mul h hb
    omega
  · exact h
def dappend (P : Program) (ts : Array TypeId) (x y : D) (r : List Room) : Option (D × TypeId) :=
  match ts.toList with
  | [t, u] => if t = u then (match elemT P t, x, y with
    | some e, .list es, .list fs => (match P.info? e with
      | some i => if lenOk (es.length + fs.length) i.bytes = true ∧ infoOk i = true ∧
          szOk i.size fs = true ∧ szOk i.size es = true ∧ (r = [.full] ∨ r = [.own e] ∨ r = [.fresh]) then some (.list (es ++ fs), e) else none
      | none => none)
    | _, _, _ => none) else none
  | _ => none
def dlen (P : Program) (ts : Array TypeId) (x : D) : Option D :=
  match (ts[0]?).bind P.underlying, x with
  | some (.slice _), .list es => some (.int .i64 es.length)
  | some (.slice _), .row _ _ n _ _ => some (.int .i64 n)
  | some .string, .str l => some (.int .i64 l.length)
  | _, _ => none
def dminmax (mx : Bool) : List D → Option D
  | [.int k a, .int _ b] => some (.int k (if mx then (if b > a then b else a) else (if b < a then b else a)))
  | _ => none

def eats (E : List Tmp) : Option Tmp → Bool
  | some d => E.contains d
  | none => false
def eaters (res : List Tmp) (ops : List Oper) : List Tmp := ops.filterMap fun o => match o.op with
  | .call { callee := .builtin .append, args, .. } => (match (args[0]? : Option Operand) with | some (.tmp t) => some t | _ => none)
  | .extract (.tmp t) _ => some t
  | .assign (.tmp t) => if (eats res o.dst && !Gs.noEat o.type) = true then some t else none
  | _ => none
def stake (E : List Tmp) (o : Oper) : Option (Tmp × Option Nat) :=
  match o.op with
  | .assign (.tmp t) => some (t, none)
  | .move (.tmp t) => if eats E o.dst then some (t, none) else none
  | .extract (.tmp t) i => some (t, some i)
  | .call { callee := .builtin .append, args, .. } => (match (args[0]? : Option Operand) with | some (.tmp t) => some (t, none) | _ => none)
  | .convert src dst (.tmp t) => if src = dst then some (t, none) else none
  | .store _ _ (.tmp t) => some (t, none)
  | .box _ (.tmp t) => some (t, none)
  | _ => none
def St.taken (s : St) : Option (Tmp × Option Nat) → List Room
  | none => []
  | some (t, none) => s.room t
  | some (t, some i) => (match (s.room t)[i]? with | some r => [r] | none => [])

abbrev Call := FuncId → List D → List Bx → Option (D × List Room × List Bx)

def isLit : Operand → Bool
  | .const _ => true
  | _ => false
def plainR : Option (D × List Room × List Bx) → Option (D × List Room)
  | some (d, r, []) => some (d, r)
  | _ => none
def bytesT (P : Program) (t : TypeId) : Bool := match P.underlying t with
  | some (.slice e) => (match P.underlying e with | some (.int .u8) => true | _ => false)
  | _ => false
def dmark (P : Program) (src dst : TypeId) (x : D) (r : List Room) : Option D :=
  match x, r with
  | .list es, [.fresh] => if src = dst ∧ bytesT P src = true then some (.list es) else none
  | _, _ => none
def sval (P : Program) (call : Call) (slot : Nat → D) (box : Nat → Option Bx) (rm : List Room) (o : Oper) : Option (D × List Room) :=
  let rd := get slot
  let ok (d : Option D) : Option (D × List Room) := d.map fun d => (d, [])
  match o.op with
  | .move x | .assign x => some (rd x, match x with | .tmp _ => rm | x => croom x)
  | .pick c a b => match rd c with | .bool t => some (if t then rd a else rd b, []) | _ => none
  | .load t a => match rd a with
    | .fix d off => ok (dpart P t (dcells d) off)
    | .ptr k g off => (match box k with | some bx => if bx.gen = g then ok (dpart P t bx.cells off) else none | none => none)
    | _ => none
  | .nilCheck x => (match rd x with | .fix d off => some (.fix d off, []) | .ptr k g off => some (.ptr k g off, []) | _ => none)
  | .binOp op t x y _ => ok (dbin P (isLit x || isLit y) op t (rd x) (rd y))
  | .unOp op _ x => ok (dun op (rd x))
  | .convert src dst x => ok (if src = dst then dmark P src dst (rd x) rm else dconv P src dst (rd x))
  | .makeInterface t x => (match P.underlying t with | some (.interface _) | none => none | some _ => some (.iface t (rd x), []))
  | .makeFunc fn f c => some (.func fn (f.toList.map rd) (c.toList.map rd), [])
  | .makeSlice t l c => (dmake P t (rd l) (rd c)).map fun e => (.list [], [.own e])
  | .slice t x lo hi mx => ok (dslice P t (rd x) (lo.map rd) (hi.map rd) (mx.map rd))
  | .fieldAddr s x i => ok (dfieldAddr P s (rd x) i)
  | .field s x i => ok (dfield P s (rd x) i)
  | .indexAddr t x i => ok (dindexAddr P t (rd x) (rd i))
  | .index t x i => ok (dindex P t (rd x) (rd i))
  | .lookup t x i false => ok (dlookup P t (rd x) (rd i))
  | .extract x i => (match rd x with | .tuple cs => (match cs[i]? with | some d => some (d, rm) | none => none) | _ => none)
  | .build t ps => (dbuild P t (ps.toList.map fun p => (p.1, rd p.2))).map fun d => (d, buildR P t (ps.toList.map (·.1)))
  | .buildSlice t n ps => (dbuildSlice P t n (ps.toList.map fun p => (p.1, rd p.2))).map fun d => (d, [if bytesT P t then .fresh else .full])
  | .call c => (match c.callee with
    | .builtin .append => (match c.args.toList with
      | [x, y] => (dappend P c.argTypes (rd x) (rd y) (match x with | .tmp _ => rm | x => croom x)).map fun (d, e) => (d, [.own e])
      | _ => none)
    | .builtin .len => (match c.args.toList with | [x] => ok (dlen P c.argTypes (rd x)) | _ => none)
    | .builtin .min => ok (dminmax false (c.args.toList.map rd))
    | .builtin .max => ok (dminmax true (c.args.toList.map rd))
    | .value f => (match rd f with
      | .func (.func g) first captured =>
        if (first ++ c.args.toList.map rd ++ captured).all pureB then plainR (call g (first ++ c.args.toList.map rd ++ captured) []) else none
      | _ => none)
    | _ => none)
  | _ => none

def pid (i : Nat) : Nat := 1000000 + i
def oroom (room : Nat → List Room) : Operand → List Room
  | .tmp t => room t
  | x => croom x
def given : Operand → Option (Tmp × Option Nat)
  | .tmp t => some (t, none)
  | _ => none
def stepBox (P : Program) (o : Oper) (s : St) : Option St :=
  let rd := get s.slot
  match o.op with
  | .alloc t => (match o.dst, zeroOf P t with
    | some k, some z => if z.all leaf = true ∧ k < 1000000 then some ({ s.setBox k (some ⟨s.ctr k, z, zrooms P t⟩) with ctr := upd s.ctr k (s.ctr k + 1) }.put o.dst (.ptr k (s.ctr k) 0) []) else none
    | _, _ => none)
  | .box t x => (match o.dst, sizeT P t with
    | some k, some n => if (dcells (rd x)).length = n ∧ pureB (rd x) = true ∧ k < 1000000 then some ({ (s.demote (given x)).setBox k (some ⟨s.ctr k, dcells (rd x), (padR (oroom s.room x) n).take n⟩) with ctr := upd s.ctr k (s.ctr k + 1) }.put o.dst (.ptr k (s.ctr k) 0) []) else none
    | _, _ => none)
  | .store t a x => (match rd a, sizeT P t with
    | .ptr k g off, some n => (match s.box k with
      | some bx => if bx.gen = g ∧ (dcells (rd x)).length = n ∧ off + n ≤ bx.cells.length ∧ pureB (rd x) = true then
          some (((s.demote (given x)).setBox k (some ⟨g, bx.cells.take off ++ dcells (rd x) ++ bx.cells.drop (off + n), putR bx.rooms off n (oroom s.room x)⟩)).put o.dst (.tuple []) []) else none
      | none => none)
    | _, _ => none)
  | _ => none
def stepTake (P : Program) (o : Oper) (s : St) : Option St :=
  match o.op with
  | .load t a => (match get s.slot a with
    | .ptr k g off => (match s.box k with
      | some bx => if bx.gen = g then (match dpart P t bx.cells off with
          | some (.list es) => some ((s.setBox k (some ⟨g, bx.cells, bx.rooms.set off .no⟩)).put o.dst (.list es) [(bx.rooms[off]?).getD .no])
          | _ => none) else none
      | none => none)
    | _ => none)
  | _ => none
def takes (P : Program) (E : List Tmp) (slot : Nat → D) (o : Oper) : Bool := match o.op with
  | .load t a => eats E o.dst && (match P.underlying t with | some (.slice _) => true | _ => false) && (match get slot a with | .ptr _ _ _ => true | _ => false)
  | _ => false
def ren1 (k g : Nat) : D → D
  | .ptr k' g' off => if k' = k ∧ g' = g then .ptr (pid 0) 0 off else .bad
  | d => d
def ren (k g : Nat) : D → D
  | .func fn f c => .func fn (f.map (ren1 k g)) (c.map (ren1 k g))
  | d => ren1 k g d
def argOk1 (d : D) : Bool := leaf d || (match d with | .ptr _ _ _ => true | _ => false)
def argOk (d : D) : Bool := pureB d || (match d with | .ptr _ _ _ => true | .func _ f c => f.all argOk1 && c.all argOk1 | _ => false)
def ptrIn1 : List D → Option (Nat × Nat)
  | [] => none
  | .ptr k g _ :: _ => some (k, g)
  | _ :: l => ptrIn1 l
def ptrIn : List D → Option (Nat × Nat)
  | [] => none
  | .ptr k g _ :: _ => some (k, g)
  | .func _ f c :: l => (ptrIn1 (f ++ c)).orElse fun _ => ptrIn l
  | _ :: l => ptrIn l
def callArgs (o : Oper) (slot : Nat → D) : Option (FuncId × List D) := match o.op with
  | .call c => (match c.callee with
    | .value f => (match get slot f with
      | .func (.func g) first captured => some (g, first ++ c.args.toList.map (get slot) ++ captured)
      | _ => none)
    | _ => none)
  | _ => none
def ptrArgs (o : Oper) (slot : Nat → D) : Option (Nat × Nat) := (callArgs o slot).bind fun x => ptrIn x.2
def stepPtr (call : Call) (o : Oper) (s : St) : Option St :=
  match callArgs o s.slot with
  | some (g, args) => (match ptrIn args with
    | some (k, gn) => (match s.box k with
      | some bx => if bx.gen = gn ∧ args.all argOk = true then (match call g (args.map (ren k gn)) [⟨0, bx.cells, bx.rooms⟩] with
          | some (d, r, [b']) => some ((s.setBox k (some ⟨gn, b'.cells, b'.rooms⟩)).put o.dst d r)
          | _ => none) else none
      | none => none)
    | none => none)
  | none => none
def newR (o : Oper) (s : St) : Option (D × List Room × List Bx) → Option St
  | some (.ptr _ _ _, _, [b]) => (match o.dst with
    | some t => if t < 1000000 then some ({ s.setBox t (some ⟨s.ctr t, b.cells, b.rooms⟩) with ctr := upd s.ctr t (s.ctr t + 1) }.put (some t) (.ptr t (s.ctr t) 0) []) else none
    | none => none)
  | _ => none
def stepNew (call : Call) (o : Oper) (s : St) : Option St :=
  let rd := get s.slot
  match o.op with
  | .call c => (match c.callee with
    | .value f => (match rd f with
      | .func (.func g) first captured => if (first ++ c.args.toList.map rd ++ captured).all pureB then newR o s (call g (first ++ c.args.toList.map rd ++ captured) []) else none
      | _ => none)
    | _ => none)
  | _ => none
def stepS (P : Program) (call : Call) (E : List Tmp) (o : Oper) (s : St) : Option St :=
  match sval P call s.slot s.box (s.taken (stake E o)) o with
  | some (d, r) => some ((s.demote (stake E o)).put o.dst d r)
  | none => none
def dwanted (ops : List Oper) (s : St) (o : Oper) : Option Bool :=
  match o.guard with
  | none => some true
  | some (j, want) => match (ops[j]?).bind (·.dst) with
    | none => none
    | some t => match s.slot t with
      | .bool b => some (b == want)
      | .tuple [] => some false
      | _ => none
def inB (n : Nat) (o : Oper) : Bool := match o.dst with | some k => k < n | none => true
def step (P : Program) (call : Call) (n : Nat) (E : List Tmp) (ops : List Oper) (o : Oper) (s : St) : Option St :=
  if inB n o then
    match dwanted ops s o with
    | none => none
    | some false => some (s.put o.dst (.tuple []) [])
    | some true => match o.op with
      | .alloc _ | .box _ _ | .store _ _ _ => stepBox P o s
      | .call _ => if (ptrArgs o s.slot).isSome then stepPtr call o s else (stepS P call E o s).orElse fun _ => stepNew call o s
      | _ => if takes P E s.slot o then stepTake P o s else stepS P call E o s
  else none
def rowApp (P : Program) (ts : List TypeId) (x : D) (r : List Room) (y : D) : Option (List D × Nat × Bool) :=
  match ts, x, y with
  | [t, u], .list [], .list fs => if t = u ∧ r = [.full] ∧ 0 < fs.length then (match elemT P t with
    | some e => (match P.info? e, aggOf P e with
      | some i, some ag => if lenOk fs.length i.bytes = true ∧ infoOk i = true ∧ szOk i.size fs = true then some (fs, i.size, ag) else none
      | _, _ => none)
    | none => none) else none
  | _, _, _ => none
def madeRow (s : St) (k : Nat) (cells : List D) (m sz : Nat) (ag : Bool) : St := { s.setBox k (some ⟨s.ctr k, cells, []⟩) with ctr := upd s.ctr k (s.ctr k + 1) }.put (some k) (.row k (s.ctr k) m sz ag) []
def stepRow (P : Program) (n : Nat) (o : Oper) (s : St) : Option St :=
  let rd := get s.slot
  match o.guard, o.dst with
  | none, some k => if k < n ∧ k < 1000000 then (match o.op with
    | .convert src dst x => (match P.underlying dst, dconv P src dst (rd x) with
      | some (.slice _), some (.list es) => some (madeRow s k es es.length 1 false)
      | _, _ => none)
    | .makeSlice t l c => (match elemT P t, rd l, rd c with
      | some e, .int kl m, .int kc m' => (match P.info? e, zeroOf P e, aggOf P e with
        | some i, some z, some ag => if kl = .i64 ∧ kc = .i64 ∧ 0 ≤ m ∧ m ≤ m' ∧ m' ≤ 1073741824 ∧ infoOk i = true ∧ z.length = i.size ∧ z.all leaf = true then some (madeRow s k (List.replicate m.toNat z).flatten m.toNat i.size ag) else none
        | _, _, _ => none)
      | _, _, _ => none)
    | .call c => (match c.callee, c.args.toList with
      | .builtin .append, [x, y] => (match rowApp P c.argTypes.toList (rd x) (oroom s.room x) (rd y) with
        | some (fs, sz, ag) => some (madeRow s k (flat fs) fs.length sz ag)
        | none => none)
      | _, _ => none)
    | _ => none) else none
  | _, _ => none
def rowElem (ag : Bool) (c : List D) : D := if ag then .agg c else c.headD .bad
def rowList (sz : Nat) (ag : Bool) : Nat → List D → List D
  | 0, _ => []
  | n + 1, cs => rowElem ag (cs.take sz) :: rowList sz ag n (cs.drop sz)
def frzD (k g : Nat) (cells : List D) : D → D
  | .row k' g' n sz ag => if k' = k ∧ g' = g then (if n * sz ≤ cells.length ∧ 0 < sz ∧ (ag = true ∨ sz = 1) then .list (rowList sz ag n cells) else .bad) else .row k' g' n sz ag
  | .ptr k' g' off => if k' = k ∧ g' = g then .fix (.agg cells) off else .ptr k' g' off
  | d => d
def St.freeze (s : St) (t : Tmp) : St := match s.slot t with
  | .ptr k g _ => (match s.box k with
    | some bx => if bx.gen = g ∧ k < 1000000 then { s with box := upd s.box k none, slot := fun j => frzD k g bx.cells (s.slot j) } else s
    | none => s)
  | .row k g _ _ _ => (match s.box k with
    | some bx => if bx.gen = g ∧ k < 1000000 then { s with box := upd s.box k none, slot := fun j => frzD k g bx.cells (s.slot j) } else s
    | none => s)
  | _ => s
def St.frz (s : St) : List Tmp → St
  | [] => s
  | t :: l => (s.freeze t).frz l
def runOps (P : Program) (call : Call) (n : Nat) (E : List Tmp) (ops : List Oper) : List Oper → St → Option St
  | [], s => some s
  | o :: r, s => (if Gs.rowAt o then stepRow P n o s else step P call n E ops o s).bind (runOps P call n E ops r)

def isAlloc (o : Oper) : Bool := match o.op with | .alloc _ => true | _ => false
def callKey (o : Oper) : Option Tmp := match o.op with | .call _ => Gs.callK o | _ => none
def pOk (slot : Nat → D) (o : Oper) : Bool := match ptrArgs o slot, callKey o with
  | some (k, _), some K => k == K
  | _, _ => false
def allocKeys (ops : List Oper) : List Tmp := ops.filterMap fun o => if isAlloc o then o.dst else callKey o
def isLocal (ks : List Tmp) (o : Oper) : Bool := match o.op with
  | .alloc _ => true
  | .store _ (.tmp k) _ => ks.contains k
  | .call _ => (callKey o).isSome
  | _ => false
def lkey (ks : List Tmp) (o : Oper) : Option Tmp := match o.op with
  | .alloc _ => o.dst
  | .store _ (.tmp k) _ => if ks.contains k then some k else none
  | .call _ => callKey o
  | _ => none
def optIn (ks : List Tmp) : Option Tmp → Bool
  | some k => ks.contains k
  | none => false
def loadsOwn (ks : List Tmp) (slot : Nat → D) (o : Oper) : Bool := match o.op with
  | .load _ a => (match get slot a with | .ptr k _ _ => ks.contains k | _ => false)
  | _ => false
def ptrAt (slot : Nat → D) (k : Nat) : Bool := match slot k with | .ptr k' _ _ => k' == k | _ => false
def stepD (P : Program) (call : Call) (n : Nat) (E : List Tmp) (ops : List Oper) (o : Oper) (s : St) : Option St :=
  if inB n o then
    match dwanted ops s o with
    | none => none
    | some false => if isLocal (allocKeys ops) o then none else some (s.put o.dst (.tuple []) [])
    | some true => match o.op with
      | .alloc _ => if optIn (allocKeys ops) o.dst = true then stepBox P o s else none
      | .box _ _ => none
      | .store _ (.tmp k) _ => if (allocKeys ops).contains k = true ∧ o.dst = none ∧ ptrAt s.slot k = true then stepBox P o s else none
      | .store _ _ _ => none
      | .load _ _ => if loadsOwn (allocKeys ops) s.slot o then none else if takes P E s.slot o then stepTake P o s else stepS P call E o s
      | .call _ => if (callKey o).isSome = true then (if optIn (allocKeys ops) (callKey o) = true ∧ pOk s.slot o = true then stepPtr call o s else none) else if (ptrArgs o s.slot).isSome then none else stepS P call E o s
      | _ => stepS P call E o s
  else none
def isBar (ops : List Oper) (o : Oper) : Bool := match o.op with
  | .store _ _ _ => !isLocal (allocKeys ops) o
  | .box _ _ => true
  | .call _ => Gs.barC o
  | _ => false
def stepX (P : Program) (call : Call) (n : Nat) (E : List Tmp) (ops : List Oper) (o : Oper) (s : St) : Option St :=
  if isBar ops o then step P call n E ops o s else stepD P call n E ops o s
def runD (P : Program) (call : Call) (n : Nat) (E : List Tmp) (ops : List Oper) : List Oper → St → Option St
  | [], s => some s
  | o :: r, s => (stepX P call n E ops o s).bind (runD P call n E ops r)
def edge (o : Oper) (i : Nat) : Bool := o.after.any fun e => Region.binds .any e && e.on == i
def looks (ops : List Oper) (o : Oper) : List Tmp :=
  (o.op.operands.toList.filterMap fun | .tmp t => some t | _ => none) ++ (match o.guard with | some (g, _) => ((ops[g]?).bind (·.dst)).toList | none => [])
def optNe : Option Tmp → Option Tmp → Bool
  | some a, some b => a != b
  | _, _ => true
def eatLoad (E : List Tmp) (o : Oper) : Bool := match o.op with | .load _ _ => eats E o.dst | _ => false
def stkNe : Option (Tmp × Option Nat) → Option (Tmp × Option Nat) → Bool
  | some (t, i), some (t', i') => t != t' || (match i, i' with | some a, some b => a != b | _, _ => false)
  | _, _ => true
def indep (E : List Tmp) (ops : List Oper) (x y : Oper) : Bool :=
  (match x.dst with | some d => !(looks ops y).contains d | none => true) && (match y.dst with | some d => !(looks ops x).contains d | none => true) && optNe x.dst y.dst &&
  stkNe (stake E x) (stake E y) && (!(isLocal (allocKeys ops) x && isLocal (allocKeys ops) y) || optNe (lkey (allocKeys ops) x) (lkey (allocKeys ops) y)) && !(eatLoad E x && eatLoad E y)
def cover (o : Oper) (ops : List Oper) (k : Nat) : Bool :=
  (List.range k).all fun i => edge o i || (List.range k).any fun j => decide (i < j) && (match ops[j]? with | some oj => edge oj i | none => false)
def behind (ops : List Oper) (j : Nat) : Bool :=
  (List.range ops.length).all fun l => decide (l ≤ j) || (match ops[l]? with | some ol => (List.range l).any fun m => decide (j ≤ m) && edge ol m | none => true)
def barAt (ops : List Oper) (j : Nat) : Bool := match ops[j]? with
  | some oj => isBar ops oj && cover oj ops j && behind ops j
  | none => false
def drawOk (E : List Tmp) (ops : List Oper) : Bool :=
  (List.range ops.length).all fun j => match ops[j]? with
    | none => true
    | some oj => (!isBar ops oj || barAt ops j) && (oj.after.all fun e => !Region.binds .any e || decide (e.on < j)) && (List.range j).all fun i => match ops[i]? with
      | none => true
      | some oi => edge oj i || indep E ops oi oj && !isBar ops oi && !isBar ops oj || (List.range ops.length).any fun b => decide (i ≤ b) && decide (b ≤ j) && barAt ops b
def runDraw (P : Program) (call : Call) (n : Nat) (E : List Tmp) (ops : List Oper) (s : St) : Option St :=
  if drawOk E ops then runD P call n E ops ops s else none
inductive X where
  | normal
  | exit (id : Nat)
  | ret
  deriving DecidableEq
def aloop (body : St → Option (X × St)) : Nat → St → Option (X × St)
  | 0, _ => none
  | m + 1, s => match body s with
    | some (.normal, s') => aloop body m s'
    | r => r
def acode (P : Program) (call : Call) (N n : Nat) (res : List Tmp) : Code → St → Option (X × St)
  | .skip, s => some (.normal, s)
  | .region _ ops draw, s => (if draw then runDraw P call n (eaters res ops.toList) ops.toList (s.frz (Gs.frzAt ops.toList)) else runOps P call n (eaters res ops.toList) ops.toList ops.toList (s.frz (Gs.frzAt ops.toList))).map fun s => (.normal, s)
  | .seq a b, s => match acode P call N n res a s with
    | some (.normal, s') => acode P call N n res b s'
    | r => r
  | .cond c a b, s => match get s.slot c with
    | .bool true => acode P call N n res a s
    | .bool false => acode P call N n res b s
    | _ => none
  | .block id b, s => match acode P call N n res b s with
    | some (.exit i, s') => if i = id then some (.normal, s') else some (.exit i, s')
    | r => r
  | .loop b, s => aloop (acode P call N n res b) N s
  | .exit id, s => some (.exit id, s)
  | .ret, s => some (.ret, s)
  | _, _ => none
def rvar (P : Program) (s : St) : ResultVar → Option (D × List Room)
  | .tmp t => some (s.slot t, if notAgg (s.slot t) = true then (s.room t).take 1 else [])
  | .cell a t => match s.slot a with
    | .ptr k g off => (match s.box k with | some bx => if bx.gen = g then (dpart P t bx.cells off).map (·, [.no]) else none | none => none)
    | _ => none
def room1 : List Room → Room
  | [] => .no
  | r :: _ => r
def rvars (P : Program) (s : St) : List ResultVar → Option (List (D × Room))
  | [] => some []
  | v :: r => match rvar P s v, rvars P s r with
    | some (d, m), some l => if pureB d = true then some ((d, room1 m) :: l) else none
    | _, _ => none
def resTmps (fn : Func) : List Tmp := fn.results.toList.filterMap fun | .tmp t => some t | _ => none
def noTwice : List Nat → Bool
  | [] => true
  | x :: r => !r.contains x && noTwice r
def finish (P : Program) (fn : Func) (s : St) : Option (D × List Room) :=
  if noTwice (resTmps fn) = false then none else
  match rvars P s fn.results.toList with
  | some [(d, r)] => some (d, [r])
  | some l => some (.tuple (l.map (·.1)), l.map (·.2))
  | none => none
def entry (args : List D) (pbs : List Bx) : St :=
  { slot := fun j => args.getD j (.tuple []), room := fun _ => [], box := fun k => if 1000000 ≤ k then pbs[k - 1000000]? else none, ctr := fun _ => 1 }
def nid : Nat := 2000000
def finishNew (fn : Func) (s : St) : Option Bx :=
  match fn.results.toList with
  | [.tmp t] => (match s.slot t with
    | .ptr k g 0 => if k < 1000000 then (match s.box k with | some bx => if bx.gen = g then some ⟨0, bx.cells, bx.rooms⟩ else none | none => none) else none
    | _ => none)
  | _ => none
def leaving (P : Program) (fn : Func) (pbs : List Bx) : Option (X × St) → Option (D × List Room × List Bx)
  | some (.normal, s) | some (.ret, s) => (match finish P fn s with
    | some (d, r) => some (d, r, (List.range pbs.length).map fun i => (s.box (pid i)).getD default)
    | none => (finishNew fn s).map fun b => (.ptr nid 0 0, [], ((List.range pbs.length).map fun i => (s.box (pid i)).getD default) ++ [b]))
  | _ => none
def aev (P : Program) (ext : Call) : Nat → Call
  | 0, _, _, _ => none
  | N + 1, f, args, pbs => match ext f args pbs with
    | some r => some r
    | none => match P.funcs[f]? with
      | none => none
      | some fn => match fn.body with
        | none => none
        | some c => leaving P fn pbs (acode P (aev P ext N) N (max args.length fn.ntmps) (resTmps fn) c (entry args pbs))
def noExt : Call := fun _ _ _ => none
end Go.Av
namespace Go.Av
open Go.RowKit
variable [Gs]

theorem addr_add (b off j : Nat) : (⟨b, off, none⟩ : Addr).add j = ⟨b, off + j, none⟩ := by
  by_cases h : j = 0
  · subst h; simp [Addr.add]
  · simp [Addr.add, h]

section
variable {c : Nat → Nat} {ν : Nat → Nat → Nat} {F : Nat → Nat → Prop} {w : World} {v : Value}
theorem Den.int_ {k : IntKind} {n : Int} (h : Den c ν F w v (.int k n)) : v = .int k n := by
  cases h with | pure _ _ h => cases h; rfl
theorem Den.bool_ {b : Bool} (h : Den c ν F w v (.bool b)) : v = .bool b := by
  cases h with | pure _ _ h => cases h; rfl
theorem Den.str_ {l : List UInt8} (h : Den c ν F w v (.str l)) : v = .string ⟨l.toArray⟩ := by
  cases h with | pure _ _ h => cases h; rfl
theorem Den.con_ {u : Value} (h : Den c ν F w v (.con u)) : v = u ∧ isCon u = true := by
  cases h with | pure _ _ h => cases h; exact ⟨rfl, ‹_›⟩
theorem Den.list_ {es : List D} (h : Den c ν F w v (.list es)) : Den0 F w v (.list es) := by
  cases h with | pure _ _ h => exact h
theorem Den.fix_ {d : D} {off : Nat} (h : Den c ν F w v (.fix d off)) : Den0 F w v (.fix d off) := by
  cases h with | pure _ _ h => exact h
theorem Den.ptr_ {k g off : Nat} (h : Den c ν F w v (.ptr k g off)) : v = .pointer (some ⟨ν k g, off, none⟩) ∧ g < c k := by
  cases h with
  | pure _ _ h => cases h
  | ptr _ _ _ hg => exact ⟨rfl, hg⟩
theorem Den.row_ {k g n sz : Nat} {ag : Bool} (h : Den c ν F w v (.row k g n sz ag)) : ∃ cap, v = .slice (some ⟨ν k g, 0, none⟩) n cap ∧ g < c k ∧ n ≤ cap := by
  cases h with
  | pure _ _ h => cases h
  | row _ _ _ cap _ _ hg hn => exact ⟨cap, rfl, hg, hn⟩
theorem Den.tuple_ {cs : List D} (h : Den c ν F w v (.tuple cs)) : ∃ vs : List Value, v = .tuple vs.toArray ∧ vs.length = cs.length ∧ ∀ (i : Nat) (v : Value) (x : D), vs[i]? = some v → cs[i]? = some x → Den c ν F w v x := by
  cases h with
  | pure _ _ h => cases h
  | tuple vs _ h1 h2 => exact ⟨vs, rfl, h1, h2⟩
theorem Den.agg_ {cs : List D} (h : Den c ν F w v (.agg cs)) : ∃ vs : List Value, v = .agg vs.toArray ∧ vs.length = cs.length ∧ (∀ v ∈ vs, v.oneCell' = true) ∧
    ∀ (i : Nat) (v : Value) (x : D), vs[i]? = some v → cs[i]? = some x → Den c ν F w v x := by
  cases h with
  | pure _ _ h => cases h with | agg vs _ h1 h2 h3 => exact ⟨vs, rfl, h1, h2, fun i v x hv hx => .pure v x (h3 i v x hv hx)⟩
  | agg vs _ h1 h2 h3 => exact ⟨vs, rfl, h1, h2, h3⟩
theorem Den.iface_ {t : TypeId} {d : D} (h : Den c ν F w v (.iface t d)) : ∃ u, v = .iface t u ∧ Den c ν F w u d := by
  cases h with
  | pure _ _ h => cases h with | iface _ u _ h => exact ⟨u, rfl, .pure u d h⟩
  | iface _ u _ h => exact ⟨u, rfl, h⟩
theorem Den.func_ {fn : Fn} {f cp : List D} (h : Den c ν F w v (.func fn f cp)) : ∃ fs cs : List Value, v = .func fn fs.toArray cs.toArray ∧ fs.length = f.length ∧ cs.length = cp.length ∧
    (∀ (i : Nat) (v : Value) (x : D), fs[i]? = some v → f[i]? = some x → Den c ν F w v x) ∧ (∀ (i : Nat) (v : Value) (x : D), cs[i]? = some v → cp[i]? = some x → Den c ν F w v x) := by
  cases h with
  | pure _ _ h => cases h with | func _ fs cs _ _ h1 h2 h3 h4 => exact ⟨fs, cs, rfl, h1, h2, fun i v x hv hx => .pure v x (h3 i v x hv hx), fun i v x hv hx => .pure v x (h4 i v x hv hx)⟩
  | func _ fs cs _ _ h1 h2 h3 h4 => exact ⟨fs, cs, rfl, h1, h2, h3, h4⟩

theorem getElem?_of_len {α β : Type} {xs : List α} {ys : List β} (h : xs.length = ys.length) {i : Nat} {x : α} (hx : xs[i]? = some x) : ∃ y, ys[i]? = some y := by
  have : i < ys.length := by
    rw [← h]
    exact (List.getElem?_eq_some_iff.1 hx).1
  exact ⟨ys[i], List.getElem?_eq_getElem this⟩
theorem Den.leafN_ : ∀ (n : Nat) {v : Value} {d : D}, Den c ν F w v d → leafN n d = true → Den0 F w v d := by
  intro n v d h
  induction h generalizing n with
  | bad v => intro h; cases n <;> simp [leafN] at h
  | pure v d hp => intro _; exact hp
  | ptr k g off hg => intro h; cases n <;> simp [leafN] at h
  | row k g n' cap sz ag hg hn => intro h; cases n <;> simp [leafN] at h
  | tuple vs cs h1 _ ih => intro h; cases n <;> simp [leafN] at h
  | agg vs cs h1 h2 _ ih => intro h; cases n <;> simp [leafN] at h
  | iface t v d _ ih =>
    intro h
    cases n with
    | zero => simp [leafN] at h
    | succ n => exact .iface t v d (ih n h)
  | func fn fs cs f cp h1 h2 _ _ ih1 ih2 =>
    intro h
    cases n with
    | zero => simp [leafN] at h
    | succ n =>
      simp only [leafN, Bool.and_eq_true, List.all_eq_true] at h
      exact .func fn fs cs f cp h1 h2 (fun i v x hv hx => ih1 i v x hv hx n (h.1 x (List.mem_of_getElem? hx))) (fun i v x hv hx => ih2 i v x hv hx n (h.2 x (List.mem_of_getElem? hx)))
theorem Den.leaf_ {d : D} (h : Den c ν F w v d) (hl : leaf d = true) : Den0 F w v d := h.leafN_ 6 hl
theorem Den.pureB_ {d : D} (h : Den c ν F w v d) (hl : pureB d = true) : Den0 F w v d := by
  cases d with
  | agg cs =>
    obtain ⟨vs, rfl, h1, h2, h3⟩ := h.agg_
    simp only [pureB, List.all_eq_true] at hl
    exact .agg vs cs h1 h2 fun i v x hv hx => (h3 i v x hv hx).leaf_ (hl x (List.mem_of_getElem? hx))
  | _ => exact h.leaf_ (by simpa [pureB] using hl)
theorem Den0.oneCell {d : D} (h : Den0 F w v d) (hd : ∀ cs, d ≠ .agg cs) : v.oneCell' = true := by
  cases h with
  | agg vs cs => exact absurd rfl (hd cs)
  | con v hv => cases v <;> simp [isCon, Value.oneCell'] at hv ⊢
  | _ => rfl
theorem Den0.cells {d : D} (h : Den0 F w v d) : v.cells.toList.length = (dcells d).length ∧ (∀ u ∈ v.cells.toList, u.oneCell' = true) ∧
    ∀ (i : Nat) (u : Value) (x : D), v.cells.toList[i]? = some u → (dcells d)[i]? = some x → Den0 F w u x := by
  by_cases hd : ∃ cs, d = .agg cs
  · obtain ⟨cs, rfl⟩ := hd
    cases h with | agg vs _ h1 h2 h3 => exact ⟨by simpa [Value.cells, dcells] using h1, by simpa [Value.cells] using h2, by simpa [Value.cells, dcells] using h3⟩
  · have h1 := h.oneCell (fun cs e => hd ⟨cs, e⟩)
    have h2 : v.cells = #[v] := by cases v <;> simp_all [Value.cells, Value.oneCell']
    have h3 : dcells d = [d] := by
      cases d with
      | agg cs => exact absurd ⟨cs, rfl⟩ hd
      | _ => rfl
    rw [h2, h3]
    refine ⟨rfl, by simpa using h1, fun i u x hu hx => ?_⟩
    cases i with
    | zero =>
      simp at hu hx
      subst hu hx
      exact h
    | succ i => simp at hu

theorem cval1_den (u : Value) : Den c ν F w u (cval1 u) := by
  unfold cval1
  split
  · exact .pure _ _ (.bool _)
  · exact .pure _ _ (.int _ _)
  · rename_i s
    have h : Den0 F w (.string ⟨s.data.toList.toArray⟩) (.str s.data.toList) := .str _
    simp only [Array.toArray_toList] at h
    exact .pure _ _ h
  · exact .pure _ _ (.list none 0 0 1 [] [] rfl (Nat.le_refl _) (by decide) (fun e he => by simp at he) rfl (.inl rfl) (fun i v x hv => by simp at hv))
  · exact .pure _ _ (.con _ rfl)
  · exact .pure _ _ (.con _ rfl)
  · exact .pure _ _ (.con _ rfl)
  · exact .pure _ _ (.con _ rfl)
  · exact .bad _
theorem cval_den (u : Value) : Den c ν F w u (cval u) := by
  unfold cval
  split
  · rename_i vs
    split
    · rename_i hv
      have : Den c ν F w (.agg vs.toList.toArray) (.agg (vs.toList.map cval1)) := .agg vs.toList _ (by simp) (List.all_eq_true.1 hv) fun i v x hv hx => by
        rw [List.getElem?_map, hv] at hx
        simp at hx
        subst hx
        exact cval1_den v
      simpa using this
    · exact .bad _
  · exact cval1_den u
theorem get_den {a : Act} {slot : Nat → D} (hg : GOK F w) (hs : ∀ j, Den c ν F w (a.tmps.getD j undef) (slot j)) (x : Operand) : Den c ν F w (a.eval x) (get slot x) := by
  cases x with
  | tmp t => exact hs t
  | const v => exact cval_den v
  | global g =>
    rcases hg.1 g with h | h
    · show Den c ν F w (a.eval (.global g)) (Gs.gl g)
      rw [h]; exact .bad _
    · exact .pure _ _ h
  | func f => exact .pure _ _ (.func (.func f) [] [] [] [] rfl rfl (fun i v x hv => by simp at hv) (fun i v x hv => by simp at hv))
end
end Go.Av
namespace Go.Av
open Go.RowKit
variable [Gs]

section
variable {P : Program} {c : Nat → Nat} {ν : Nat → Nat → Nat} {F : Nat → Nat → Prop} {w : World}

theorem run_intBin {op : BinOp} {k : IntKind} {a b : Int} {d : D} (h : dIntBin op k a b = some d) :
    ∃ v, (match op with
      | .add | .sub | .mul => Op.intArith op k a b
      | .quo | .rem => Op.intDiv op k a b
      | .and | .or | .xor | .andNot => Op.intBits op k a b
      | _ => Op.intCmp op a b : Sem Value).run P w = .ok v w ∧ Den c ν F w v d := by
  cases op <;> simp only [dIntBin] at h <;> first
    | (injection h with h; subst h; first
        | exact ⟨_, rfl, .pure _ _ (.int _ _)⟩
        | exact ⟨_, rfl, .pure _ _ (.bool _)⟩)
    | (split at h
       · cases h
       · rename_i hb; injection h with h; subst h; exact ⟨_, by simp [Op.intDiv, hb], .pure _ _ (.int _ _)⟩)
    | cases h
theorem run_shift_ {op : BinOp} {k : IntKind} {a b : Int} {d : D} (yk : IntKind) (h : dShift op k a b = some d) : ∃ v, (Op.shift op k a yk b).run P w = .ok v w ∧ Den c ν F w v d := by
  unfold dShift at h
  split at h
  · cases h
  · rename_i hb
    cases op <;> simp at h <;> subst h
    · exact ⟨_, by simp [Op.shift, hb], .pure _ _ (.int _ _)⟩
    · exact ⟨_, by simp [Op.shift, hb], .pure _ _ (.int _ _)⟩
theorem run_strBin {op : BinOp} {a b : List UInt8} {d : D} (h : dStrBin op a b = some d) : ∃ v, (Op.stringOp op ⟨a.toArray⟩ ⟨b.toArray⟩).run P w = .ok v w ∧ Den c ν F w v d := by
  cases op <;> simp only [dStrBin] at h <;> first
    | cases h; done
    | (injection h with h; subst h; exact ⟨_, by simp [Op.stringOp], .pure _ _ (.bool _)⟩)
    | (split at h
       · rename_i hl
         injection h with h
         subst h
         refine ⟨.string ⟨(a ++ b).toArray⟩, ?_, .pure _ _ (.str _)⟩
         have h1 : ¬ ((((⟨a.toArray⟩ : ByteArray).size + (⟨b.toArray⟩ : ByteArray).size : Nat) : Int) > IntKind.i64.max) := by
           have h2 : (⟨a.toArray⟩ : ByteArray).size = a.length := by simp [ByteArray.size]
           have h3 : (⟨b.toArray⟩ : ByteArray).size = b.length := by simp [ByteArray.size]
           rw [h2, h3]
           simp [IntKind.max, IntKind.signed, IntKind.bits]
           omega
         simp only [Op.stringOp, if_neg h1]
         have h4 : (⟨a.toArray⟩ ++ ⟨b.toArray⟩ : ByteArray) = ⟨(a ++ b).toArray⟩ := by
           apply ByteArray.ext
           simp
         rw [h4]
         rfl
       · cases h)
theorem run_eqIn (n : Nat) {t : TypeId} {lit b : Bool} {x y : D} {vx vy : Value} (hx : Den c ν F w vx x) (hy : Den c ν F w vy y) (hs : shapeOk P t x y = true) (h : dNilEq lit x y = some b) :
    (Op.equalIn (n + 1) t vx vy).run P w = .ok b w := by
  unfold dNilEq at h
  split at h
  · rw [hx.con_.1, hy.con_.1]
    split at h
    · injection h with h
      subst h
      simp only [shapeOk] at hs
      split at hs <;> first | (rename_i h0; simp [Op.equalIn, run_underlying h0]) | cases hs
    · cases h
  · rw [hx.con_.1, hy.con_.1]
    injection h with h
    subst h
    simp only [shapeOk] at hs
    split at hs <;> first | (rename_i h0; simp [Op.equalIn, run_underlying h0]) | cases hs
  · obtain ⟨rfl, _⟩ := hx.con_
    have hy' := hy.fix_
    cases hy'
    injection h with h
    subst h
    simp only [shapeOk] at hs
    split at hs <;> first | (rename_i h0; simp [Op.equalIn, run_underlying h0]) | cases hs
  · obtain ⟨rfl, _⟩ := hy.con_
    have hx' := hx.fix_
    cases hx'
    injection h with h
    subst h
    simp only [shapeOk] at hs
    split at hs <;> first | (rename_i h0; simp [Op.equalIn, run_underlying h0]) | cases hs
  · obtain ⟨rfl, _⟩ := hx.con_
    obtain ⟨rfl, _⟩ := hy.ptr_
    injection h with h
    subst h
    simp only [shapeOk] at hs
    split at hs <;> first | (rename_i h0; simp [Op.equalIn, run_underlying h0]) | cases hs
  · obtain ⟨rfl, _⟩ := hy.con_
    obtain ⟨rfl, _⟩ := hx.ptr_
    injection h with h
    subst h
    simp only [shapeOk] at hs
    split at hs <;> first | (rename_i h0; simp [Op.equalIn, run_underlying h0]) | cases hs
  · obtain ⟨rfl, _⟩ := hx.con_
    obtain ⟨u, rfl, _⟩ := hy.iface_
    injection h with h
    subst h
    simp only [shapeOk] at hs
    split at hs <;> first | (rename_i h0; simp [Op.equalIn, run_underlying h0]) | cases hs
  · obtain ⟨rfl, _⟩ := hy.con_
    obtain ⟨u, rfl, _⟩ := hx.iface_
    injection h with h
    subst h
    simp only [shapeOk] at hs
    split at hs <;> first | (rename_i h0; simp [Op.equalIn, run_underlying h0]) | cases hs
  · obtain ⟨rfl, _⟩ := hx.con_
    obtain ⟨fs, cs, rfl, _⟩ := hy.func_
    injection h with h
    subst h
    simp only [shapeOk] at hs
    split at hs <;> first | (rename_i h0; simp [Op.equalIn, run_underlying h0]) | cases hs
  · obtain ⟨rfl, _⟩ := hy.con_
    obtain ⟨fs, cs, rfl, _⟩ := hx.func_
    injection h with h
    subst h
    simp only [shapeOk] at hs
    split at hs <;> first | (rename_i h0; simp [Op.equalIn, run_underlying h0]) | cases hs
  · cases h
theorem run_eqBool (n : Nat) {t : TypeId} (a b : Bool) (h0 : P.underlying t = some .bool) : (Op.equalIn (n + 1) t (.bool a) (.bool b)).run P w = .ok (a == b) w := by
  simp [Op.equalIn, run_underlying h0]
def plainPair : Value → Value → Bool
  | .nilIface, .nilIface | .agg _, .agg _ => false
  | _, _ => true
theorem run_guard_plain (op : BinOp) (t : TypeId) (x y : Operand) {a b : Value} (h : plainPair a b = true) : (eqGuard op t x y a b).run P w = .ok () w := by
  unfold eqGuard
  cases op <;> simp <;> (split <;> first | rfl | simp_all [plainPair])
theorem run_guard_lit (op : BinOp) (t : TypeId) (x y : Operand) (h : (isLit x || isLit y) = true) : (eqGuard op t x y .nilIface .nilIface).run P w = .ok () w := by
  have h' : (∃ v, x = .const v) ∨ ∃ v, y = .const v := by
    cases x with
    | const v => exact .inl ⟨v, rfl⟩
    | _ => cases y with
      | const v => exact .inr ⟨v, rfl⟩
      | _ => simp [isLit] at h
  rcases h' with ⟨v, rfl⟩ | ⟨v, rfl⟩ <;> cases op <;> simp [eqGuard]
def rowD : TypeDesc → Bool | .struct _ | .array _ _ => true | _ => false
theorem run_part1 {t : TypeId} {vs : List Value} {off : Nat} {d : TypeDesc} {v : Value} (hu : P.underlying t = some d) (hd : rowD d = false) (hv : vs[off]? = some v) :
    (part t vs.toArray off).run P w = .ok v w := by
  have ha : (isAgg t).run P w = .ok false w := by
    simp only [isAgg, Sem.run_bind, run_underlying hu, Result.andThen_ok]
    cases d <;> first | rfl | cases hd
  simp only [part, Sem.run_bind, ha, Result.andThen_ok]
  simp [hv]
theorem run_eqLeaf {t : TypeId} {x y : D} {vx vy : Value} {b : Bool} (n : Nat) (hx : Den c ν F w vx x) (hy : Den c ν F w vy y) (h : eqLeaf P t x y = some b) :
    (Op.equalIn (n + 1) t vx vy).run P w = .ok b w ∧ ∃ d, P.underlying t = some d ∧ rowD d = false := by
  unfold eqLeaf at h
  split at h
  · rename_i k a k' b'
    rw [hx.int_, hy.int_]
    split at h
    · rename_i hk
      obtain ⟨rfl, hu⟩ := hk
      injection h with h
      subst h
      generalize hd : P.underlying t = d at hu
      match d, hu with
      | some (.int k0), _ => exact ⟨run_equalIn_int w n t k k0 a b' hd, _, rfl, rfl⟩
    · cases h
  · rename_i a b'
    rw [hx.str_, hy.str_]
    split at h
    · rename_i hu
      injection h with h
      subst h
      generalize hd : P.underlying t = d at hu
      match d, hu with
      | some .string, _ =>
        refine ⟨?_, _, rfl, rfl⟩
        rw [run_equalIn_string w n t _ _ hd]
        congr 1
        rw [ByteArray.toList_eq, ByteArray.toList_eq]
    · cases h
  · rename_i a b'
    rw [hx.bool_, hy.bool_]
    split at h
    · rename_i hu
      injection h with h
      subst h
      generalize hd : P.underlying t = d at hu
      match d, hu with
      | some .bool, _ => exact ⟨run_equalIn_bool' w n t a b' hd, _, rfl, rfl⟩
    · cases h
  · cases h
theorem run_eqFs {xs ys : List D} {vs ws : List Value} (n : Nat) (lx : vs.length = xs.length) (ly : ws.length = ys.length) (hx : ∀ (i : Nat) (v : Value) (x : D), vs[i]? = some v → xs[i]? = some x → Den c ν F w v x)
    (hy : ∀ (i : Nat) (v : Value) (x : D), ws[i]? = some v → ys[i]? = some x → Den c ν F w v x) : ∀ (fs : List Field) (b : Bool), eqFs P xs ys fs = some b → (Op.eqFields (n + 1) vs.toArray ws.toArray fs).run P w = .ok b w
  | [], b, h => by
    simp only [eqFs, Option.some.injEq] at h
    subst h
    rfl
  | f :: fs, b, h => by
    unfold eqFs at h
    split at h
    · cases h
    · rename_i hn
      split at h
      · rename_i x y hx1 hy1
        obtain ⟨v, hv⟩ : ∃ v, vs[f.offset]? = some v := by
          have := (List.getElem?_eq_some_iff.1 hx1).1
          exact ⟨vs[f.offset]'(by omega), List.getElem?_eq_getElem (by omega)⟩
        obtain ⟨u, hu⟩ : ∃ v, ws[f.offset]? = some v := by
          have := (List.getElem?_eq_some_iff.1 hy1).1
          exact ⟨ws[f.offset]'(by omega), List.getElem?_eq_getElem (by omega)⟩
        have dx := hx _ _ _ hv hx1
        have dy := hy _ _ _ hu hy1
        unfold Op.eqFields
        rw [if_pos hn]
        cases hl : eqLeaf P f.type x y with
        | none => rw [hl] at h; cases h
        | some r =>
          obtain ⟨h1, d, h2, h3⟩ := run_eqLeaf (P := P) n dx dy hl
          simp only [Sem.run_bind, run_part1 h2 h3 hv, run_part1 h2 h3 hu, h1, Result.andThen_ok]
          rw [hl] at h
          cases r with
          | true =>
            simp only [Bool.not_true, Bool.false_eq_true, if_false]
            exact run_eqFs n lx ly hx hy fs b h
          | false =>
            simp only [Option.some.injEq] at h
            subst h
            rfl
      · cases h
theorem run_partS {t : TypeId} {vs : List Value} {off n : Nat} {gs : Array Field} (hu : P.underlying t = some (.struct gs)) (hn : sizeT P t = some n) :
    (part t vs.toArray off).run P w = .ok (.agg ((vs.drop off).take n).toArray) w := by
  have ha : (isAgg t).run P w = .ok true w := by
    simp only [isAgg, Sem.run_bind, run_underlying hu, Result.andThen_ok]
    rfl
  have hs : (sizeOf t).run P w = .ok n w := by
    unfold sizeT at hn
    rw [Option.map_eq_some_iff] at hn
    obtain ⟨i, hi, rfl⟩ := hn
    simp [sizeOf, typeInfo, hi]
  simp only [part, Sem.run_bind, ha, Result.andThen_ok, if_true, hs]
  simp [List.extract_toArray, List.extract_eq_take_drop]
theorem run_eqSub {xs ys : List D} {vs ws : List Value} (n : Nat) (lx : vs.length = xs.length) (ly : ws.length = ys.length) (hx : ∀ (i : Nat) (v : Value) (x : D), vs[i]? = some v → xs[i]? = some x → Den c ν F w v x)
    (hy : ∀ (i : Nat) (v : Value) (x : D), ws[i]? = some v → ys[i]? = some x → Den c ν F w v x) {f : Field} {r : Bool} (h : eqSub P f xs ys = some r) :
    ∃ a b, (part f.type vs.toArray f.offset).run P w = .ok a w ∧ (part f.type ws.toArray f.offset).run P w = .ok b w ∧ (Op.equalIn (n + 2) f.type a b).run P w = .ok r w := by
  unfold eqSub at h
  split at h
  · rename_i gs hu
    split at h
    · rename_i k hk
      split at h
      · rename_i hc
        refine ⟨_, _, run_partS hu hk, run_partS hu hk, ?_⟩
        have hf : P.fieldsOf f.type = gs := by unfold Program.fieldsOf; rw [hu]
        rw [show n + 2 = (n + 1) + 1 from rfl, run_equalIn_struct w (n + 1) f.type _ _ (by rw [hf]; exact hu) hc.2.2, hf]
        refine run_eqFs (c := c) (ν := ν) (F := F) n (by simp [lx]) (by simp [ly]) ?_ ?_ _ r h
        · intro i v x hv hx'
          have hi : i < k := by
            have := (List.getElem?_eq_some_iff.1 hv).1
            simp at this
            omega
          rw [List.getElem?_take, if_pos hi, List.getElem?_drop] at hv hx'
          exact hx _ _ _ hv hx'
        · intro i v x hv hx'
          have hi : i < k := by
            have := (List.getElem?_eq_some_iff.1 hv).1
            simp at this
            omega
          rw [List.getElem?_take, if_pos hi, List.getElem?_drop] at hv hx'
          exact hy _ _ _ hv hx'
      · cases h
    · cases h
  · split at h
    · rename_i x y hx1 hy1
      obtain ⟨v, hv⟩ : ∃ v, vs[f.offset]? = some v := by
        have := (List.getElem?_eq_some_iff.1 hx1).1
        exact ⟨vs[f.offset]'(by omega), List.getElem?_eq_getElem (by omega)⟩
      obtain ⟨u, hu⟩ : ∃ v, ws[f.offset]? = some v := by
        have := (List.getElem?_eq_some_iff.1 hy1).1
        exact ⟨ws[f.offset]'(by omega), List.getElem?_eq_getElem (by omega)⟩
      obtain ⟨h1, d, h2, h3⟩ := run_eqLeaf (P := P) (n + 1) (hx _ _ _ hv hx1) (hy _ _ _ hu hy1) h
      exact ⟨_, _, run_part1 h2 h3 hv, run_part1 h2 h3 hu, h1⟩
    · cases h
theorem run_eqFs1 {xs ys : List D} {vs ws : List Value} (n : Nat) (lx : vs.length = xs.length) (ly : ws.length = ys.length) (hx : ∀ (i : Nat) (v : Value) (x : D), vs[i]? = some v → xs[i]? = some x → Den c ν F w v x)
    (hy : ∀ (i : Nat) (v : Value) (x : D), ws[i]? = some v → ys[i]? = some x → Den c ν F w v x) : ∀ (fs : List Field) (b : Bool), eqFs1 P xs ys fs = some b → (Op.eqFields (n + 2) vs.toArray ws.toArray fs).run P w = .ok b w
  | [], b, h => by
    simp only [eqFs1, Option.some.injEq] at h
    subst h
    rfl
  | f :: fs, b, h => by
    unfold eqFs1 at h
    split at h
    · cases h
    · rename_i hn
      unfold Op.eqFields
      rw [if_pos hn]
      cases hl : eqSub P f xs ys with
      | none => rw [hl] at h; cases h
      | some r =>
        obtain ⟨u, v, h1, h2, h3⟩ := run_eqSub (P := P) (w := w) n lx ly hx hy hl
        simp only [Sem.run_bind, h1, h2, h3, Result.andThen_ok]
        rw [hl] at h
        cases r with
        | true =>
          simp only [Bool.not_true, Bool.false_eq_true, if_false]
          exact run_eqFs1 n lx ly hx hy fs b h
        | false =>
          simp only [Option.some.injEq] at h
          subst h
          rfl
theorem run_structEq {t : TypeId} {xs ys : List D} {vx vy : Value} {b : Bool} (hx : Den c ν F w vx (.agg xs)) (hy : Den c ν F w vy (.agg ys)) (h : dStructEq P t xs ys = some b) :
    (∀ (op : BinOp) (x y : Operand), (eqGuard op t x y vx vy).run P w = .ok () w) ∧ (binOp .eql t vx vy).run P w = .ok (.bool b) w ∧ (binOp .neq t vx vy).run P w = .ok (.bool (!b)) w := by
  obtain ⟨vs, rfl, l1, _, h1⟩ := hx.agg_
  obtain ⟨ws, rfl, l2, _, h2⟩ := hy.agg_
  unfold dStructEq at h
  split at h
  · rename_i fs hu
    split at h
    · rename_i hc
      have hf : P.fieldsOf t = fs := by unfold Program.fieldsOf; rw [hu]
      have hE : (Op.equalIn 10000 t (.agg vs.toArray) (.agg ws.toArray)).run P w = .ok b w := by
        rw [show (10000 : Nat) = 9999 + 1 from rfl, run_equalIn_struct w 9999 t _ _ (by rw [hf]; exact hu) hc.1, hf]
        split at h
        · exact run_eqFs1 9997 l1 l2 h1 h2 _ b h
        · exact run_eqFs 9998 l1 l2 h1 h2 _ b h
      refine ⟨fun op x y => run_eqGuard_agg w op t x y _ _ hc.2, ?_, ?_⟩
      · rw [run_eql_struct, hE]; rfl
      · rw [run_neq_struct, hE]; rfl
    · cases h
  · cases h
theorem run_bin {op : BinOp} {t : TypeId} {x y : Operand} {dx dy d : D} {vx vy : Value} (hx : Den c ν F w vx dx) (hy : Den c ν F w vy dy)
    (h : dbin P (isLit x || isLit y) op t dx dy = some d) : ∃ v, (do eqGuard op t x y vx vy; binOp op t vx vy : Sem Value).run P w = .ok v w ∧ Den c ν F w v d := by
  have fin : ∀ {v : Value}, plainPair vx vy = true → (binOp op t vx vy).run P w = .ok v w → (do eqGuard op t x y vx vy; binOp op t vx vy : Sem Value).run P w = .ok v w := by
    intro v hp hr
    rw [Sem.run_bind, run_guard_plain op t x y hp]
    exact hr
  have nilc : ∀ {b : Bool}, shapeOk P t dx dy = true → dNilEq (isLit x || isLit y) dx dy = some b → (eqGuard op t x y vx vy).run P w = .ok () w ∧ ((op = .eql → (binOp op t vx vy).run P w = .ok (.bool b) w) ∧ (op = .neq → (binOp op t vx vy).run P w = .ok (.bool (!b)) w)) := by
    intro b hs hn
    have he : ∀ m, (Op.equalIn (m + 1) t vx vy).run P w = .ok b w := fun m => run_eqIn m hx hy hs hn
    have heq : (Op.equal t vx vy).run P w = .ok b w := he 9999
    refine ⟨?_, ?_, ?_⟩
    · by_cases hp : plainPair vx vy = true
      · exact run_guard_plain op t x y hp
      · unfold dNilEq at hn
        split at hn
        · rw [hx.con_.1, hy.con_.1]
          split at hn
          · rename_i hl
            exact run_guard_lit op t x y hl
          · cases hn
        · rw [hx.con_.1, hy.con_.1] at hp ⊢
          exact absurd rfl hp
        · obtain ⟨rfl, _⟩ := hx.con_
          exact absurd rfl hp
        · obtain ⟨rfl, _⟩ := hy.con_
          have hx' := hx.fix_
          cases hx'
          exact absurd rfl hp
        · obtain ⟨rfl, _⟩ := hx.con_
          exact absurd rfl hp
        · obtain ⟨rfl, _⟩ := hy.con_
          obtain ⟨rfl, _⟩ := hx.ptr_
          exact absurd rfl hp
        · obtain ⟨rfl, _⟩ := hx.con_
          obtain ⟨u, rfl, _⟩ := hy.iface_
          exact absurd rfl hp
        · obtain ⟨rfl, _⟩ := hy.con_
          obtain ⟨u, rfl, _⟩ := hx.iface_
          exact absurd rfl hp
        · obtain ⟨rfl, _⟩ := hx.con_
          exact absurd rfl hp
        · obtain ⟨rfl, _⟩ := hy.con_
          obtain ⟨fs, cs, rfl, _⟩ := hx.func_
          exact absurd rfl hp
        · cases hn
    · rintro rfl
      have hb : binOp .eql t vx vy = (do pure (.bool (← Op.equal t vx vy))) := by
        unfold dNilEq at hn
        split at hn
        · rw [hx.con_.1, hy.con_.1]; rfl
        · rw [hx.con_.1, hy.con_.1]; rfl
        · obtain ⟨rfl, _⟩ := hx.con_; have hy' := hy.fix_; cases hy'; rfl
        · obtain ⟨rfl, _⟩ := hy.con_; have hx' := hx.fix_; cases hx'; rfl
        · obtain ⟨rfl, _⟩ := hx.con_; obtain ⟨rfl, _⟩ := hy.ptr_; rfl
        · obtain ⟨rfl, _⟩ := hy.con_; obtain ⟨rfl, _⟩ := hx.ptr_; rfl
        · obtain ⟨rfl, _⟩ := hx.con_; obtain ⟨u, rfl, _⟩ := hy.iface_; rfl
        · obtain ⟨rfl, _⟩ := hy.con_; obtain ⟨u, rfl, _⟩ := hx.iface_; rfl
        · obtain ⟨rfl, _⟩ := hx.con_; obtain ⟨fs, cs, rfl, _⟩ := hy.func_; rfl
        · obtain ⟨rfl, _⟩ := hy.con_; obtain ⟨fs, cs, rfl, _⟩ := hx.func_; rfl
        · cases hn
      rw [hb, Sem.run_bind, heq]
      rfl
    · rintro rfl
      have hb : binOp .neq t vx vy = (do pure (.bool (!(← Op.equal t vx vy)))) := by
        unfold dNilEq at hn
        split at hn
        · rw [hx.con_.1, hy.con_.1]; rfl
        · rw [hx.con_.1, hy.con_.1]; rfl
        · obtain ⟨rfl, _⟩ := hx.con_; have hy' := hy.fix_; cases hy'; rfl
        · obtain ⟨rfl, _⟩ := hy.con_; have hx' := hx.fix_; cases hx'; rfl
        · obtain ⟨rfl, _⟩ := hx.con_; obtain ⟨rfl, _⟩ := hy.ptr_; rfl
        · obtain ⟨rfl, _⟩ := hy.con_; obtain ⟨rfl, _⟩ := hx.ptr_; rfl
        · obtain ⟨rfl, _⟩ := hx.con_; obtain ⟨u, rfl, _⟩ := hy.iface_; rfl
        · obtain ⟨rfl, _⟩ := hy.con_; obtain ⟨u, rfl, _⟩ := hx.iface_; rfl
        · obtain ⟨rfl, _⟩ := hx.con_; obtain ⟨fs, cs, rfl, _⟩ := hy.func_; rfl
        · obtain ⟨rfl, _⟩ := hy.con_; obtain ⟨fs, cs, rfl, _⟩ := hx.func_; rfl
        · cases hn
      rw [hb, Sem.run_bind, heq]
      rfl
  unfold dbin at h
  split at h
  · rw [hx.int_, hy.int_] at fin ⊢
    obtain ⟨v, h1, h2⟩ := run_shift_ (P := P) (c := c) (ν := ν) (F := F) (w := w) .i64 h
    exact ⟨v, fin rfl (by rw [← h1]; rfl), h2⟩
  · rw [hx.int_, hy.int_] at fin ⊢
    obtain ⟨v, h1, h2⟩ := run_shift_ (P := P) (c := c) (ν := ν) (F := F) (w := w) .i64 h
    exact ⟨v, fin rfl (by rw [← h1]; rfl), h2⟩
  · rename_i k a k' b hn1 hn2
    rw [hx.int_, hy.int_] at fin ⊢
    split at h
    · rename_i hk
      subst hk
      obtain ⟨v, h1, h2⟩ := run_intBin (P := P) (c := c) (ν := ν) (F := F) (w := w) h
      refine ⟨v, fin rfl ?_, h2⟩
      cases op <;> first
        | (simp [dIntBin] at h; done)
        | (rw [← h1]; simp [binOp]; done)
    · cases h
  · rw [hx.str_, hy.str_] at fin ⊢
    obtain ⟨v, h1, h2⟩ := run_strBin (P := P) (c := c) (ν := ν) (F := F) (w := w) h
    refine ⟨v, fin rfl ?_, h2⟩
    cases op <;> first
      | (simp [dStrBin] at h; done)
      | (rw [← h1]; rfl)
  · rename_i a b
    rw [hx.bool_, hy.bool_] at fin ⊢
    split at h
    · rename_i hb0
      rw [if_pos rfl] at h
      · injection h with h
        subst h
        refine ⟨_, fin rfl ?_, .pure _ _ (.bool _)⟩
        have := run_eqBool (P := P) (w := w) 9999 (t := t) a b hb0
        show (do pure (.bool (← Op.equal t (.bool a) (.bool b))) : Sem Value).run P w = _
        rw [Sem.run_bind, show Op.equal t (.bool a) (.bool b) = Op.equalIn (9999 + 1) t (.bool a) (.bool b) from rfl, this]
        rfl
    · simp at h
  · rename_i a b
    rw [hx.bool_, hy.bool_] at fin ⊢
    split at h
    · rename_i hb0
      rw [if_pos rfl] at h
      · injection h with h
        subst h
        refine ⟨_, fin rfl ?_, .pure _ _ (.bool _)⟩
        have := run_eqBool (P := P) (w := w) 9999 (t := t) a b hb0
        show (do pure (.bool (!(← Op.equal t (.bool a) (.bool b)))) : Sem Value).run P w = _
        rw [Sem.run_bind, show Op.equal t (.bool a) (.bool b) = Op.equalIn (9999 + 1) t (.bool a) (.bool b) from rfl, this]
        rfl
    · simp at h
  · rename_i xs ys
    rw [Option.map_eq_some_iff] at h
    obtain ⟨b, hb, rfl⟩ := h
    obtain ⟨g1, g2, _⟩ := run_structEq (P := P) hx hy hb
    exact ⟨_, by rw [Sem.run_bind, g1]; exact g2, .pure _ _ (.bool _)⟩
  · rename_i xs ys
    rw [Option.map_eq_some_iff] at h
    obtain ⟨b, hb, rfl⟩ := h
    obtain ⟨g1, _, g2⟩ := run_structEq (P := P) hx hy hb
    exact ⟨_, by rw [Sem.run_bind, g1]; exact g2, .pure _ _ (.bool _)⟩
  · split at h
    · rename_i hs
      rw [Option.map_eq_some_iff] at h
      obtain ⟨b, hb, rfl⟩ := h
      obtain ⟨h1, h2, _⟩ := nilc hs hb
      exact ⟨_, by rw [Sem.run_bind, h1]; exact h2 rfl, .pure _ _ (.bool _)⟩
    · cases h
  · split at h
    · rename_i hs
      rw [Option.map_eq_some_iff] at h
      obtain ⟨b, hb, rfl⟩ := h
      obtain ⟨h1, _, h2⟩ := nilc hs hb
      exact ⟨_, by rw [Sem.run_bind, h1]; exact h2 rfl, .pure _ _ (.bool _)⟩
    · cases h
  · cases h
end
end Go.Av
namespace Go.Av
open Go.RowKit
variable [Gs]

section
variable {P : Program} {c : Nat → Nat} {ν : Nat → Nat → Nat} {F : Nat → Nat → Prop} {w : World}

theorem run_un {op : UnOp} {x d : D} {vx : Value} (hx : Den c ν F w vx x) (h : dun op x = some d) : ∃ v, (Op.unary op vx).run P w = .ok v w ∧ Den c ν F w v d := by
  unfold dun at h
  split at h
  · rw [hx.int_]
    injection h with h
    subst h
    exact ⟨_, rfl, .pure _ _ (.int _ _)⟩
  · rw [hx.bool_]
    injection h with h
    subst h
    exact ⟨_, rfl, .pure _ _ (.bool _)⟩
  · cases h

theorem info_of_sizeT {t : TypeId} {n : Nat} (h : sizeT P t = some n) : ∃ i, P.info? t = some i ∧ i.size = n := by
  unfold sizeT at h
  rw [Option.map_eq_some_iff] at h
  exact h
theorem run_sizeOf_ {t : TypeId} {n : Nat} (h : sizeT P t = some n) : (sizeOf t).run P w = .ok n w := by
  obtain ⟨i, hi, rfl⟩ := info_of_sizeT h
  simp [sizeOf, typeInfo, hi]
theorem run_isAgg_ {t : TypeId} {b : Bool} (h : aggOf P t = some b) : (isAgg t).run P w = .ok b w := by
  unfold aggOf at h
  rw [Option.map_eq_some_iff] at h
  obtain ⟨d, hd, rfl⟩ := h
  simp only [isAgg, Sem.run_bind, run_underlying hd, Result.andThen_ok]
  cases d <;> rfl
theorem getElem?_drop_take {α : Type} {xs : List α} {off n i : Nat} (hi : i < n) : ((xs.drop off).take n)[i]? = xs[off + i]? := by
  rw [List.getElem?_take, if_pos hi, List.getElem?_drop]
theorem run_part {R : Value → D → Prop} (hagg : ∀ (vs : List Value) (cs : List D), vs.length = cs.length → (∀ v ∈ vs, v.oneCell' = true) → (∀ (i : Nat) (v : Value) (x : D), vs[i]? = some v → cs[i]? = some x → R v x) → R (.agg vs.toArray) (.agg cs))
    {t : TypeId} {vs : List Value} {cs : List D} {off : Nat} {d : D} (hl : vs.length = cs.length) (h1 : ∀ v ∈ vs, v.oneCell' = true) (hr : ∀ (i : Nat) (v : Value) (x : D), vs[i]? = some v → cs[i]? = some x → R v x)
    (h : dpart P t cs off = some d) : ∃ v, (part t vs.toArray off).run P w = .ok v w ∧ R v d := by
  unfold dpart at h
  split at h
  · rename_i n ha hn
    split at h
    · rename_i hle
      injection h with h
      subst h
      refine ⟨.agg ((vs.drop off).take n).toArray, ?_, hagg _ _ ?_ ?_ ?_⟩
      · simp only [part, Sem.run_bind, run_isAgg_ ha, Result.andThen_ok, if_true, run_sizeOf_ hn]
        simp [List.extract_toArray, List.extract_eq_take_drop]
      · simp [hl]
      · intro v hv
        exact h1 v (List.mem_of_mem_drop (List.mem_of_mem_take hv))
      · intro i v x hv hx
        have hi : i < n := by
          have := (List.getElem?_eq_some_iff.1 hv).1
          simp at this
          omega
        rw [getElem?_drop_take hi] at hv hx
        exact hr _ _ _ hv hx
    · cases h
  · rename_i ha
    obtain ⟨v, hv⟩ := getElem?_of_len hl.symm h
    refine ⟨v, ?_, hr _ _ _ hv h⟩
    simp only [part, Sem.run_bind, run_isAgg_ ha, Result.andThen_ok]
    simp [hv]
  · cases h
theorem run_load_part {t : TypeId} {vs : List Value} {cs : List D} {b o off : Nat} {d : D} (hl : vs.length = cs.length) (hc : ∀ (i : Nat) (v : Value), vs[i]? = some v → w.cell? ⟨b, o + i, none⟩ = some v ∧ v.oneCell' = true)
    (hr : ∀ (i : Nat) (v : Value) (x : D), vs[i]? = some v → cs[i]? = some x → Den0 F w v x) (h : dpart P t cs off = some d) :
    ∃ v, (loadVar t ⟨b, o + off, none⟩).run P w = .ok v w ∧ Den0 F w v d := by
  unfold dpart at h
  split at h
  · rename_i n ha hn
    split at h
    · rename_i hle
      injection h with h
      subst h
      refine ⟨.agg ((vs.drop off).take n).toArray, ?_, .agg _ _ ?_ ?_ ?_⟩
      · simp only [loadVar, Sem.run_bind, run_isAgg_ ha, Result.andThen_ok, if_true, run_sizeOf_ hn]
        have hlen : ((vs.drop off).take n).length = n := by simp [hl]; omega
        have := run_loadCells_list (P := P) (w := w) ⟨b, o + off, none⟩ ((vs.drop off).take n) (fun j v hj => by
          have hjn : j < n := by
            have := (List.getElem?_eq_some_iff.1 hj).1
            rw [hlen] at this
            exact this
          rw [getElem?_drop_take hjn] at hj
          rw [addr_add, Nat.add_assoc]
          exact (hc _ _ hj).1)
        rw [hlen] at this
        rw [this]
        rfl
      · simp [hl]
      · intro v hv
        obtain ⟨i, hi⟩ := List.getElem?_of_mem (List.mem_of_mem_drop (List.mem_of_mem_take hv))
        exact (hc _ _ hi).2
      · intro i v x hv hx
        have hi : i < n := by
          have := (List.getElem?_eq_some_iff.1 hv).1
          simp at this
          omega
        rw [getElem?_drop_take hi] at hv hx
        exact hr _ _ _ hv hx
    · cases h
  · rename_i ha
    obtain ⟨v, hv⟩ := getElem?_of_len hl.symm h
    refine ⟨v, ?_, hr _ _ _ hv h⟩
    simp only [loadVar, Sem.run_bind, run_isAgg_ ha, Result.andThen_ok]
    simp [run_load, (hc _ _ hv).1]
  · cases h
theorem run_load_fix {t : TypeId} {x d : D} {off : Nat} {v : Value} (hv : Den0 F w v (.fix x off)) (h : dpart P t (dcells x) off = some d) :
    ∃ u, (Instr.loadAt t v).run P w = .ok u w ∧ Den0 F w u d := by
  cases hv with
  | fix _ b o _ vs h1 h2 h3 =>
    obtain ⟨u, hr, hd⟩ := run_load_part (P := P) (F := F) (w := w) (b := b) (o := o) h1 (fun i v hi => ⟨(h2 i v hi).2.1, (h2 i v hi).2.2⟩) h3 h
    exact ⟨u, by simp only [Instr.loadAt, Instr.sureAddr, Sem.run_bind, Sem.run_pure, Result.andThen_ok, hr], hd⟩
theorem run_fieldAddr {s : TypeId} {x d : D} {i : Nat} {v : Value} (hv : Den c ν F w v x) (h : dfieldAddr P s x i = some d) : ∃ u, (Instr.fieldAt s v i).run P w = .ok u w ∧ Den c ν F w u d := by
  unfold dfieldAddr at h
  split at h
  · cases h
  rename_i f hf
  unfold fieldOf at hf
  obtain ⟨td, htd, hf⟩ := Option.bind_eq_some_iff.1 hf
  cases td with
  | struct fs =>
    split at h
    · cases h
    · cases h
    · rename_i n h0 hn
      have hn0 : n ≠ 0 := fun e => h0 e
      have run : ∀ b o : Nat, (Instr.fieldAt s (.pointer (some ⟨b, o, none⟩)) i).run P w = .ok (.pointer (some ⟨b, o + f.offset, none⟩)) w := fun b o => by
        simp only [Instr.fieldAt, Sem.run_bind, run_underlying htd, Result.andThen_ok, hf, Instr.sureAddr, Sem.run_pure, fieldPlace, run_sizeOf_ hn]
        rw [if_neg hn0]
        simp [addr_add]
      split at h
      · rename_i d0 off
        injection h with h
        subst h
        have hv' := hv.fix_
        cases hv' with
        | fix _ b o _ vs h1 h2 h3 =>
          refine ⟨_, run b (o + off), .pure _ _ ?_⟩
          rw [Nat.add_assoc]
          exact .fix d0 b o _ vs h1 h2 h3
      · rename_i k g off
        injection h with h
        subst h
        obtain ⟨rfl, hg⟩ := hv.ptr_
        exact ⟨_, run _ off, .ptr k g _ hg⟩
      · cases h
  | _ => cases hf
theorem run_field {s : TypeId} {x d : D} {i : Nat} {v : Value} (hv : Den c ν F w v x) (h : dfield P s x i = some d) : ∃ u, (Instr.field s v i).run P w = .ok u w ∧ Den c ν F w u d := by
  unfold dfield at h
  split at h
  · rename_i f cs hf
    unfold fieldOf at hf
    obtain ⟨td, htd, hf⟩ := Option.bind_eq_some_iff.1 hf
    cases td with
    | struct fs =>
      obtain ⟨vs, rfl, h1, h2, h3⟩ := hv.agg_
      obtain ⟨u, hr, hd⟩ := run_part (P := P) (w := w) (R := Den c ν F w) (fun vs cs a b d => .agg vs cs a b d) h1 h2 h3 h
      refine ⟨u, ?_, hd⟩
      simp only [Instr.field, Sem.run_bind, run_underlying htd, Result.andThen_ok]
      simp [hf, asAgg, hr]
    | _ => cases hf
  · cases h

theorem flat_at : ∀ {es : List D} {sz k : Nat} {e : D}, (∀ e ∈ es, (dcells e).length = sz) → es[k]? = some e → ∀ j, j < sz → (flat es)[k * sz + j]? = (dcells e)[j]?
  | [], sz, k, e, _, h, _, _ => by simp at h
  | x :: es, sz, k, e, hs, h, j, hj => by
    have hx : (dcells x).length = sz := hs x (by simp)
    cases k with
    | zero =>
      simp at h
      subst h
      simp only [flat, List.flatMap_cons, Nat.zero_mul, Nat.zero_add]
      rw [List.getElem?_append_left (by omega)]
    | succ k =>
      simp only [List.getElem?_cons_succ] at h
      have := flat_at (es := es) (sz := sz) (k := k) (e := e) (fun e he => hs e (by simp [he])) h j hj
      simp only [flat, List.flatMap_cons] at this ⊢
      rw [List.getElem?_append_right (by rw [hx, Nat.succ_mul]; omega), hx, Nat.succ_mul]
      rw [show k * sz + sz + j - sz = k * sz + j by omega]
      exact this
theorem flat_len : ∀ {es : List D} {sz : Nat}, (∀ e ∈ es, (dcells e).length = sz) → (flat es).length = es.length * sz
  | [], sz, _ => by simp [flat]
  | x :: es, sz, hs => by
    have := flat_len (es := es) (sz := sz) fun e he => hs e (by simp [he])
    simp only [flat, List.flatMap_cons, List.length_append, List.length_cons] at this ⊢
    rw [this, hs x (by simp), Nat.succ_mul]
    omega
theorem elem_of {t : TypeId} {e : TypeId} (h : elemT P t = some e) : P.underlying t = some (.slice e) := by
  unfold elemT at h
  obtain ⟨td, htd, h⟩ := Option.bind_eq_some_iff.1 h
  cases td <;> first | (injection h with h; subst h; exact htd) | cases h
theorem run_indexAddr {t : TypeId} {x i d : D} {vx vi : Value} (hx : Den c ν F w vx x) (hi : Den c ν F w vi i) (h : dindexAddr P t x i = some d) : ∃ u, (Instr.indexAt t vx vi).run P w = .ok u w ∧ Den c ν F w u d := by
  unfold dindexAddr at h
  split at h
  · rename_i e es k n he
    have ht := elem_of he
    split at h
    · rename_i sz hsz
      split at h
      · rename_i hb
        split at h
        · rename_i hcs
          injection h with h
          subst h
          rw [hi.int_]
          have hx' := hx.list_
          cases hx' with
          | list a m cp s _ vs h1 h2 h3 h4 h5 h6 h7 =>
            have hlt : n.toNat < es.length := by omega
            have hget : es[n.toNat]? = some es[n.toNat] := List.getElem?_eq_getElem hlt
            have hgD : es.getD n.toNat .bad = es[n.toNat] := by simp [List.getD, hget]
            rw [hgD] at hcs ⊢
            have hs : s = sz := by rw [← h4 _ (List.getElem_mem hlt), hcs]
            subst hs
            have hpos : vs ≠ [] := by
              intro e0
              rw [e0] at h5
              have hp : 0 < m * s := Nat.mul_pos (by omega) h3
              rw [← h5] at hp
              exact absurd hp (by simp)
            obtain ⟨b, off, rfl, hcell⟩ := h6.resolve_left hpos
            refine ⟨.pointer (some ⟨b, off + n.toNat * s + 0, none⟩), ?_, .pure _ _ (.fix _ b (off + n.toNat * s) 0 ((vs.drop (n.toNat * s)).take s) ?_ ?_ ?_)⟩
            · simp only [Instr.indexAt, asIntOf, Sem.run_bind, Sem.run_pure, Result.andThen_ok, run_underlying ht]
              rw [if_pos (by omega)]
              simp [run_sizeOf_ hsz, addr_add]
            · rw [hcs]
              have : (n.toNat + 1) * s ≤ m * s := Nat.mul_le_mul_right _ (by omega)
              rw [Nat.add_mul, Nat.one_mul] at this
              simp [h5]
              omega
            · intro j v hv
              have hj : j < s := by
                have := (List.getElem?_eq_some_iff.1 hv).1
                simp at this
                omega
              rw [getElem?_drop_take hj] at hv
              have := hcell _ _ hv
              rwa [← Nat.add_assoc] at this
            · intro j v x hv hxx
              have hj : j < s := by
                have := (List.getElem?_eq_some_iff.1 hv).1
                simp at this
                omega
              rw [getElem?_drop_take hj] at hv
              exact h7 _ _ _ hv (by rw [flat_at h4 hget j hj]; exact hxx)
        · cases h
      · cases h
    · cases h
  · rename_i e k g m sz ag kk n he
    have ht := elem_of he
    split at h
    · rename_i hb
      injection h with h
      subst h
      rw [hi.int_]
      obtain ⟨cap, rfl, hg, hn⟩ := hx.row_
      refine ⟨.pointer (some ⟨ν k g, n.toNat * sz, none⟩), ?_, .ptr k g _ hg⟩
      simp only [Instr.indexAt, asIntOf, Sem.run_bind, Sem.run_pure, Result.andThen_ok, run_underlying ht]
      rw [if_pos (by omega)]
      simp [run_sizeOf_ hb.2.2, addr_add]
    · cases h
  · rename_i d off kk n he
    split at h
    · rename_i m e ht
      split at h
      · rename_i sz hsz
        split at h
        · rename_i hb
          injection h with h
          subst h
          rw [hi.int_]
          have hx' := hx.fix_
          cases hx' with
          | fix _ b o _ vs h1 h2 h3 =>
            refine ⟨.pointer (some ⟨b, o + (off + n.toNat * sz), none⟩), ?_, .pure _ _ (.fix d b o (off + n.toNat * sz) vs h1 h2 h3)⟩
            simp only [Instr.indexAt, asIntOf, Sem.run_bind, Sem.run_pure, Result.andThen_ok, run_underlying ht, Instr.sureAddr]
            rw [if_pos (by omega)]
            simp [run_sizeOf_ hsz, addr_add, Nat.add_assoc]
        · cases h
      · cases h
    · cases h
  · rename_i kp g off kk n he
    split at h
    · rename_i m e ht
      split at h
      · rename_i sz hsz
        split at h
        · rename_i hb
          injection h with h
          subst h
          rw [hi.int_]
          obtain ⟨rfl, hg⟩ := hx.ptr_
          refine ⟨.pointer (some ⟨ν kp g, off + n.toNat * sz, none⟩), ?_, .ptr kp g _ hg⟩
          simp only [Instr.indexAt, asIntOf, Sem.run_bind, Sem.run_pure, Result.andThen_ok, run_underlying ht, Instr.sureAddr]
          rw [if_pos (by omega)]
          simp [run_sizeOf_ hsz, addr_add]
        · cases h
      · cases h
    · cases h
  · cases h
theorem run_index {t : TypeId} {x i d : D} {vx vi : Value} (hx : Den c ν F w vx x) (hi : Den c ν F w vi i) (h : dindex P t x i = some d) : ∃ u, (Instr.index t vx vi).run P w = .ok u w ∧ Den c ν F w u d := by
  unfold dindex at h
  split at h
  · rename_i l k n ht
    split at h
    · rename_i hb
      injection h with h
      subst h
      rw [hi.int_, hx.str_]
      refine ⟨_, ?_, .pure _ _ (.int _ _)⟩
      have hlt : n.toNat < l.length := by omega
      have hg : (⟨l.toArray⟩ : ByteArray)[n.toNat]? = some l[n.toNat] := by
        rw [getElem?_pos (⟨l.toArray⟩ : ByteArray) n.toNat (by simpa [ByteArray.size] using hlt)]
        rfl
      simp only [Instr.index, asIntOf, Sem.run_bind, Sem.run_pure, Result.andThen_ok, run_underlying ht]
      rw [if_pos hb.1, hg]
      simp [List.getD, List.getElem?_eq_getElem hlt]
    · cases h
  · rename_i m e cs k n ht
    split at h
    · rename_i sz hsz
      split at h
      · rename_i hb
        obtain ⟨vs, rfl, h1, h2, h3⟩ := hx.agg_
        obtain ⟨u, hr, hd⟩ := run_part (P := P) (w := w) (R := Den c ν F w) (fun vs cs a b d => .agg vs cs a b d) h1 h2 h3 h
        refine ⟨u, ?_, hd⟩
        rw [hi.int_]
        simp only [Instr.index, asIntOf, Sem.run_bind, Sem.run_pure, Result.andThen_ok, run_underlying ht]
        rw [if_pos hb]
        simp [run_sizeOf_ hsz, hr]
      · cases h
    · cases h
  · cases h
open MapKept in
theorem findNow_first {k : Value} {q : IntKind} (hk : IsKey (.int q) k) : ∀ (l : List MapEntry) (i : Nat), (∀ x ∈ l, IsKey (.int q) x.key) →
    (Instr.findNow (.int q) k l i = some none ∧ ∀ x ∈ l, x.key ≠ k) ∨ ∃ j e, Instr.findNow (.int q) k l i = some (some (i + j, e.val)) ∧ l[j]? = some e ∧ e.key = k ∧ ∀ i' x, i' < j → l[i']? = some x → x.key ≠ k
  | [], _, _ => .inl ⟨rfl, by simp⟩
  | e :: es, i, h => by
    obtain ⟨r, hr, hiff⟩ := sameNow_of_keys hk (h e (.head _))
    cases r with
    | true => exact .inr ⟨0, e, by simp [Instr.findNow, hr], rfl, (hiff.1 rfl).symm, fun i' x hi => absurd hi (Nat.not_lt_zero _)⟩
    | false =>
      have hne : e.key ≠ k := fun he => by
        have := hiff.2 he.symm
        cases this
      rcases findNow_first hk es (i + 1) (fun x hx => h x (.tail _ hx)) with ⟨h1, h2⟩ | ⟨j, e0, h1, h2, h3, h4⟩
      · refine .inl ⟨by simp [Instr.findNow, hr, h1], fun x hx => ?_⟩
        rcases List.mem_cons.1 hx with rfl | hx
        · exact hne
        · exact h2 x hx
      · refine .inr ⟨j + 1, e0, by simp [Instr.findNow, hr, h1]; omega, by simpa using h2, h3, fun i' x hi hx => ?_⟩
        match i' with
        | 0 => simp at hx; subst hx; exact hne
        | i' + 1 => exact h4 i' x (by omega) (by simpa using hx)
theorem isI64_eq {o : Option TypeDesc} (h : isI64 o = true) : o = some (.int .i64) := by
  unfold isI64 at h
  split at h
  · rfl
  · cases h
theorem isNilSl_eq {o : Option Value} (h : isNilSl o = true) : o = some (.slice none 0 0) := by
  unfold isNilSl at h
  split at h
  · rfl
  · cases h
theorem run_lookup {t : TypeId} {x i d : D} {vx vi : Value} (hx : Den c ν F w vx x) (hi : Den c ν F w vi i) (h : dlookup P t x i = some d) : ∃ u, (Instr.lookup t vx vi false).run P w = .ok u w ∧ Den c ν F w u d := by
  unfold dlookup at h
  split at h
  · rename_i k e ks ds n ht
    split at h
    · rename_i hc
      injection h with h
      subst h
      obtain ⟨hk, hz⟩ := hc
      have hk := isI64_eq hk
      have hz := isNilSl_eq hz
      rw [hi.int_]
      have hx : Den0 F w vx (.imap ks ds) := by cases hx with | pure _ _ h => exact h
      cases hx with
      | imap b es clock _ _ h1 h2 h3 h4 h5 =>
        have hkey : MapKept.IsKey (.int .i64) (.int .i64 n) := rfl
        have hks : ∀ x ∈ es.toList, MapKept.IsKey (.int .i64) x.key := fun x hx => by
          obtain ⟨m, hm⟩ := h3 x hx
          rw [hm]
          exact rfl
        have hzr : (zeroValue e).run P w = .ok (.slice none 0 0) w := by
          obtain ⟨i, hi, hz⟩ := Option.bind_eq_some_iff.1 hz
          simp [zeroValue, Sem.run_bind, run_typeInfo w hi, Result.andThen, hz]
        rcases findNow_first hkey es.toList 0 hks with ⟨f1, f2⟩ | ⟨j, e0, f1, f2, f3, f4⟩
        · refine ⟨.slice none 0 0, by simp [Instr.lookup, run_underlying ht, MapKept.run_getObj_map h1, MapKept.run_checkKey hk hkey, MapKept.run_findKey hk f1, hzr, Result.andThen], ?_⟩
          rw [h4 n f2]
          exact .pure _ _ (.list none 0 0 1 [] [] rfl (Nat.le_refl _) (by decide) (fun e he => by simp at he) rfl (.inl rfl) (fun i v x hv => by simp at hv))
        · exact ⟨e0.val, by simp [Instr.lookup, run_underlying ht, MapKept.run_getObj_map h1, MapKept.run_checkKey hk hkey, MapKept.run_findKey hk f1, Result.andThen], .pure _ _ (h5 j e0 n f2 f3 f4)⟩
    · cases h
  · cases h
end
end Go.Av
namespace Go.Av
open Go.RowKit
variable [Gs]

section
variable {P : Program} {c : Nat → Nat} {ν : Nat → Nat → Nat} {F : Nat → Nat → Prop} {w : World}

theorem run_bound {x : D} {vx : Value} {hi hi' k : Nat} {code : BoundsCode} (hx : Den c ν F w vx x) (h : dbound x hi = some k) (hh : hi ≤ hi') :
    (Instr.sliceBound vx hi' code).run P w = .ok k w ∧ k ≤ hi := by
  unfold dbound at h
  split at h
  · split at h
    · rename_i hb
      injection h with h
      subst h
      rw [hx.int_]
      exact ⟨run_sliceBound w _ _ _ _ hb.1 (by omega), by omega⟩
    · cases h
  · cases h
theorem flat_append (xs ys : List D) : flat (xs ++ ys) = flat xs ++ flat ys := by simp [flat]
theorem flat_take {es : List D} {sz : Nat} (h : ∀ e ∈ es, (dcells e).length = sz) (k : Nat) : flat (es.take k) = (flat es).take (k * sz) := by
  have h1 : flat es = flat (es.take k) ++ flat (es.drop k) := by rw [← flat_append, List.take_append_drop]
  by_cases hk : k ≤ es.length
  · have h2 : (flat (es.take k)).length = k * sz := by
      rw [flat_len (fun e he => h e (List.mem_of_mem_take he))]
      simp [Nat.min_eq_left hk]
    rw [h1, ← h2, List.take_left]
  · rw [List.take_of_length_le (by omega), List.take_of_length_le]
    rw [flat_len h]
    exact Nat.mul_le_mul_right _ (by omega)
theorem flat_drop {es : List D} {sz : Nat} (h : ∀ e ∈ es, (dcells e).length = sz) (k : Nat) : flat (es.drop k) = (flat es).drop (k * sz) := by
  have h1 : flat es = flat (es.take k) ++ flat (es.drop k) := by rw [← flat_append, List.take_append_drop]
  by_cases hk : k ≤ es.length
  · have h2 : (flat (es.take k)).length = k * sz := by
      rw [flat_len (fun e he => h e (List.mem_of_mem_take he))]
      simp [Nat.min_eq_left hk]
    rw [h1, ← h2, List.drop_left]
  · rw [List.drop_eq_nil_of_le (by omega), List.drop_eq_nil_of_le]
    · rfl
    rw [flat_len h]
    exact Nat.mul_le_mul_right _ (by omega)
theorem Den0.cut {a : Option Addr} {n cp sz l h : Nat} {es : List D} (hd : Den0 F w (.slice a n cp) (.list es)) (hsz : szOk sz es = true) (hl : l ≤ h) (hh : h ≤ n) :
    Den0 F w (.slice (if cp = l then a else a.map (·.add (l * sz))) (h - l) (cp - l)) (.list ((es.take h).drop l)) := by
  cases hd with
  | list _ _ _ s _ vs h1 h2 h3 h4 h5 h6 h7 =>
    by_cases he : l = h
    · have : (es.take h).drop l = [] := List.drop_eq_nil_of_le (by simp; omega)
      rw [this, he, Nat.sub_self]
      exact .list _ 0 _ 1 [] [] rfl (Nat.zero_le _) (by decide) (fun e he => by simp at he) rfl (.inl rfl) (fun i v x hv => by simp at hv)
    · have hne : es ≠ [] := by intro e; rw [e] at h1; simp at h1; omega
      have hs : s = sz := by
        cases es with
        | nil => exact absurd rfl hne
        | cons e es =>
          simp only [szOk, beq_iff_eq] at hsz
          rw [← h4 e (by simp), hsz]
      subst hs
      have hlv : l * s < n * s := Nat.mul_lt_mul_of_pos_right (by omega) h3
      have hhv : h * s ≤ n * s := Nat.mul_le_mul_right _ hh
      have hpos : vs ≠ [] := by
        intro e0
        rw [e0] at h5
        simp at h5
        omega
      obtain ⟨b, off, rfl, hcell⟩ := h6.resolve_left hpos
      rw [if_neg (by omega)]
      have hmem : ∀ e ∈ (es.take h).drop l, (dcells e).length = s := fun e he => h4 e (List.mem_of_mem_take (List.mem_of_mem_drop he))
      refine .list _ _ _ s _ ((vs.take (h * s)).drop (l * s)) ?_ (by omega) h3 hmem ?_ (.inr ⟨b, off + l * s, ?_, ?_⟩) ?_
      · simp; omega
      · have : (h - l) * s = h * s - l * s := Nat.sub_mul _ _ _
        rw [this, List.length_drop, List.length_take, h5, Nat.min_eq_left hhv]
      · simp [addr_add]
      · intro i v hv
        rw [List.getElem?_drop] at hv
        have hv' : vs[l * s + i]? = some v := by
          rw [List.getElem?_take] at hv
          split at hv
          · exact hv
          · cases hv
        have := hcell _ _ hv'
        rwa [← Nat.add_assoc] at this
      · intro i v x hv hx
        rw [flat_drop (fun e he => h4 e (List.mem_of_mem_take he)), flat_take h4, List.getElem?_drop] at hx
        rw [List.getElem?_drop] at hv
        rw [List.getElem?_take] at hv hx
        split at hv
        · rename_i hi
          rw [if_pos hi] at hx
          exact h7 _ _ _ hv hx
        · cases hv
def optBound (v : Option Value) (y : Nat) (code : BoundsCode) (z : Nat) : Sem Nat := match v with | some v => Instr.sliceBound v y code | none => pure z
theorem run_optBound {o : Option D} {v : Option Value} {y y' z k : Nat} {code : BoundsCode} (hd : ∀ u d, v = some u → o = some d → Den c ν F w u d) (hs : v.isSome = o.isSome)
    (h : dopt o y z = some k) (hy : y ≤ y') (hz : z ≤ y) : (optBound v y' code z).run P w = .ok k w ∧ k ≤ y := by
  cases v with
  | none =>
    cases o with
    | none => injection h with h; subst h; exact ⟨rfl, hz⟩
    | some d => simp at hs
  | some u =>
    cases o with
    | none => simp at hs
    | some d => exact run_bound (hd u d rfl rfl) h hy
theorem run_bounds_ {isSlice : Bool} {len cap h0 l0 : Nat} {vlo vhi : Option Value}
    (hH : (optBound vhi cap (if isSlice then .sliceAcap else .sliceAlen) len).run P w = .ok h0 w) (hL : (optBound vlo h0 .sliceB 0).run P w = .ok l0 w) :
    (Instr.sliceBounds isSlice len cap vlo vhi none).run P w = .ok (l0, h0, cap) w := by
  cases vhi <;> cases vlo <;> simp_all [Instr.sliceBounds, optBound]
theorem flat_one : ∀ {cs : List D}, cs.all notAgg = true → flat cs = cs
  | [], _ => rfl
  | c :: r, h => by
    simp only [List.all_cons, Bool.and_eq_true] at h
    have h1 : dcells c = [c] := by
      cases c with
      | agg => cases h.1
      | _ => rfl
    show dcells c ++ flat r = c :: r
    rw [h1, flat_one h.2]
    rfl
theorem fix_row {v : Value} {cs : List D} (h : Den0 F w v (.fix (.agg cs) 0)) (hc : cs.all notAgg = true) : ∃ b o, v = .pointer (some ⟨b, o, none⟩) ∧ Den0 F w (.slice (some ⟨b, o, none⟩) cs.length cs.length) (.list cs) := by
  cases h with
  | fix d b o off vs h1 h2 h3 =>
    refine ⟨b, o, rfl, .list _ _ _ 1 cs vs rfl (Nat.le_refl _) (by decide) (fun e he => ?_) (by rw [h1]; simp [dcells]) (.inr ⟨b, o, rfl, h2⟩) fun i v x hv hx => h3 i v x hv ?_⟩
    · have := List.all_eq_true.1 hc e he
      cases e with
      | agg => cases this
      | _ => rfl
    · rw [flat_one hc] at hx
      exact hx
theorem run_slice_ {t : TypeId} {x d : D} {lo hi : Option D} {vx : Value} {vlo vhi : Option Value} (hx : Den c ν F w vx x) (hlo : ∀ v d, vlo = some v → lo = some d → Den c ν F w v d) (hhi : ∀ v d, vhi = some v → hi = some d → Den c ν F w v d)
    (hlo' : vlo.isSome = lo.isSome) (hhi' : vhi.isSome = hi.isSome) (h : dslice P t x lo hi none = some d) : ∃ u, (Instr.sliceAt t vx vlo vhi none).run P w = .ok u w ∧ Den c ν F w u d := by
  unfold dslice at h
  split at h
  · rename_i e es ht _
    split at h
    · rename_i sz hsz
      split at h
      · rename_i hsz0
        have hx' := hx.list_
        have hform : ∃ a n cp, vx = .slice a n cp := by cases hx' with | list a n cp => exact ⟨a, n, cp, rfl⟩
        obtain ⟨a, n, cp, rfl⟩ := hform
        have hn : es.length = n ∧ n ≤ cp := by cases hx' with | list _ _ _ _ _ _ h1 h2 => exact ⟨h1, h2⟩
        obtain ⟨hn, hcp⟩ := hn
        obtain ⟨h0, hh0, h⟩ := Option.bind_eq_some_iff.1 h
        obtain ⟨l0, hl0, rfl⟩ := Option.map_eq_some_iff.1 h
        obtain ⟨hH1, hH2⟩ := run_optBound (P := P) (y' := cp) (code := .sliceAcap) hhi hhi' hh0 (by omega) (Nat.le_refl _)
        obtain ⟨hL1, hL2⟩ := run_optBound (P := P) (y' := h0) (code := .sliceB) hlo hlo' hl0 (Nat.le_refl _) (Nat.zero_le _)
        refine ⟨_, ?_, .pure _ _ (hx'.cut (sz := sz) hsz0 hL2 (by omega))⟩
        have hB := run_bounds_ (P := P) (w := w) (isSlice := true) (len := n) (cap := cp) (vlo := vlo) (vhi := vhi) (by rw [← hn]; exact hH1) hL1
        simp only [Instr.sliceAt, Instr.slice, Sem.run_bind, run_underlying ht, Result.andThen_ok, hB, run_sizeOf_ hsz, Sem.run_pure]
      · cases h
    · simp at h
  · rename_i l ht _
    rw [hx.str_]
    obtain ⟨h0, hh0, h⟩ := Option.bind_eq_some_iff.1 h
    obtain ⟨l0, hl0, rfl⟩ := Option.map_eq_some_iff.1 h
    obtain ⟨hH1, hH2⟩ := run_optBound (P := P) (y' := l.length) (code := .sliceAlen) hhi hhi' hh0 (Nat.le_refl _) (Nat.le_refl _)
    obtain ⟨hL1, hL2⟩ := run_optBound (P := P) (y' := h0) (code := .sliceB) hlo hlo' hl0 (Nat.le_refl _) (Nat.zero_le _)
    have hsize : (⟨l.toArray⟩ : ByteArray).size = l.length := by simp [ByteArray.size]
    have hext : (⟨l.toArray⟩ : ByteArray).extract l0 h0 = ⟨((l.take h0).drop l0).toArray⟩ := by
      apply ByteArray.ext
      simp [List.extract_toArray, List.extract_eq_take_drop, List.drop_take]
    refine ⟨.string ⟨((l.take h0).drop l0).toArray⟩, ?_, .pure _ _ (.str _)⟩
    rw [← hext]
    have hB := run_bounds_ (P := P) (w := w) (isSlice := false) (len := l.length) (cap := l.length) (vlo := vlo) (vhi := vhi) hH1 hL1
    simp only [Instr.sliceAt, Instr.slice, Sem.run_bind, run_underlying ht, Result.andThen_ok, hsize]
    simp only [Option.isSome_none, Bool.false_eq_true, if_false, Sem.run_bind, hB, Result.andThen_ok, Sem.run_pure]
  · exact absurd ‹(none : Option D) = some _› (by simp)
  · rename_i n e cs ht _
    obtain ⟨⟨hc1, hc2, hc3, hc4, hc5, hc6⟩, h⟩ := Option.ite_none_right_eq_some.1 h
    obtain rfl := Option.some.inj h
    have e1 : vlo = none := by cases vlo with | none => rfl | some u => rw [← hlo'] at hc1; simp at hc1
    have e2 : vhi = none := by cases vhi with | none => rfl | some u => rw [← hhi'] at hc2; simp at hc2
    subst e1 e2
    obtain ⟨b, o, rfl, hl⟩ := fix_row hx.fix_ hc6
    refine ⟨.slice (some ⟨b, o, none⟩) n n, ?_, .pure _ _ (by rw [← hc4]; exact hl)⟩
    have hne : ¬ n = 0 := by omega
    simp [Instr.sliceAt, run_underlying ht, Instr.sureAddr, Instr.sliceBounds, run_sizeOf_ hc3, Addr.add]
  · cases h
theorem Den0.shrink {a : Option Addr} {n cp : Nat} {es : List D} (hd : Den0 F w (.slice a n cp) (.list es)) : Den0 F w (.slice a n n) (.list es) := by
  cases hd with
  | list _ _ _ s _ vs h1 h2 h3 h4 h5 h6 h7 => exact .list a n n s es vs h1 (Nat.le_refl _) h3 h4 h5 h6 h7
theorem run_slice3 {t : TypeId} {x d m : D} {lo hi : Option D} {vx vm : Value} {vlo vhi : Option Value} (hx : Den c ν F w vx x) (hlo : ∀ v d, vlo = some v → lo = some d → Den c ν F w v d) (hhi : ∀ v d, vhi = some v → hi = some d → Den c ν F w v d)
    (hlo' : vlo.isSome = lo.isSome) (hhi' : vhi.isSome = hi.isSome) (hm : Den c ν F w vm m) (h : dslice P t x lo hi (some m) = some d) : ∃ u, (Instr.sliceAt t vx vlo vhi (some vm)).run P w = .ok u w ∧ Den c ν F w u d := by
  unfold dslice at h
  split at h
  · exact absurd ‹some m = (none : Option D)› (by simp)
  · exact absurd ‹some m = (none : Option D)› (by simp)
  · rename_i _ e es m' ht hmx
    injection hmx with hmx
    subst hmx
    obtain ⟨⟨hc1, hc2, hc3⟩, h⟩ := Option.ite_none_right_eq_some.1 h
    · split at hc1
      · rename_i sz hsz
        have hx' := hx.list_
        have hform : ∃ a n cp, vx = .slice a n cp := by cases hx' with | list a n cp => exact ⟨a, n, cp, rfl⟩
        obtain ⟨a, n, cp, rfl⟩ := hform
        have hn : es.length = n ∧ n ≤ cp := by cases hx' with | list _ _ _ _ _ _ h1 h2 => exact ⟨h1, h2⟩
        obtain ⟨hn, hcp⟩ := hn
        obtain ⟨h0, hh0, h⟩ := Option.bind_eq_some_iff.1 h
        obtain ⟨l0, hl0, rfl⟩ := Option.map_eq_some_iff.1 h
        obtain ⟨hM1, _⟩ := run_bound (P := P) (code := .slice3Acap) hm hc2 (show es.length ≤ cp by omega)
        obtain ⟨vh, rfl⟩ : ∃ vh, vhi = some vh := by cases vhi with | none => rw [← hhi'] at hc3; simp at hc3 | some vh => exact ⟨vh, rfl⟩
        obtain ⟨dh, rfl⟩ : ∃ dh, hi = some dh := by cases hi with | none => simp at hc3 | some dh => exact ⟨dh, rfl⟩
        obtain ⟨hH1, hH2⟩ := run_bound (P := P) (hi' := es.length) (code := .slice3B) (hhi vh dh rfl rfl) hh0 (Nat.le_refl _)
        obtain ⟨hL1, hL2⟩ := run_optBound (P := P) (y' := h0) (code := .slice3C) hlo hlo' hl0 (Nat.le_refl _) (Nat.zero_le _)
        refine ⟨_, ?_, .pure _ _ (hx'.shrink.cut (sz := sz) hc1 hL2 (by omega))⟩
        have hB : (Instr.sliceBounds true n cp vlo (some vh) (some vm)).run P w = .ok (l0, h0, n) w := by
          rw [hn] at hM1 hH1
          cases vlo <;> simp_all [Instr.sliceBounds, optBound]
        simp only [Instr.sliceAt, Instr.slice, Sem.run_bind, run_underlying ht, Result.andThen_ok, hB, run_sizeOf_ hsz, Sem.run_pure]
      · simp at hc1
  · exact absurd ‹some m = (none : Option D)› (by simp)
  · cases h
theorem run_extract {cs : List D} {d : D} {i : Nat} {vx : Value} (hx : Den c ν F w vx (.tuple cs)) (h : cs[i]? = some d) : ∃ u, (Instr.extract vx i).run P w = .ok u w ∧ Den c ν F w u d := by
  obtain ⟨vs, rfl, h1, h2⟩ := hx.tuple_
  obtain ⟨u, hu⟩ := getElem?_of_len h1.symm h
  exact ⟨u, by simp [Instr.extract, hu], h2 _ _ _ hu h⟩
theorem run_len {ts : Array TypeId} {ty : TypeId} {x d : D} {vx : Value} (hx : Den c ν F w vx x) (h : dlen P ts x = some d) : ∃ u, (Builtin.len_ ts ty #[vx]).run P w = .ok u w ∧ Den c ν F w u d := by
  unfold dlen at h
  split at h
  · rename_i e es ht
    obtain ⟨t, hts, ht⟩ := Option.bind_eq_some_iff.1 ht
    injection h with h
    subst h
    have hx' := hx.list_
    cases hx' with
    | list a n cp s _ vs h1 =>
      refine ⟨.int .i64 n, ?_, .pure _ _ (by rw [h1]; exact .int _ _)⟩
      simp [Builtin.len_, hts, run_underlying ht, goInt]
  · rename_i e k g n sz ag ht
    obtain ⟨t, hts, ht⟩ := Option.bind_eq_some_iff.1 ht
    injection h with h
    subst h
    obtain ⟨cap, rfl, _, _⟩ := hx.row_
    refine ⟨.int .i64 n, ?_, .pure _ _ (.int _ _)⟩
    simp [Builtin.len_, hts, run_underlying ht, goInt]
  · rename_i l ht
    obtain ⟨t, hts, ht⟩ := Option.bind_eq_some_iff.1 ht
    injection h with h
    subst h
    rw [hx.str_]
    refine ⟨.int .i64 l.length, ?_, .pure _ _ (.int _ _)⟩
    have hsize : (⟨l.toArray⟩ : ByteArray).size = l.length := by simp [ByteArray.size]
    simp [Builtin.len_, hts, run_underlying ht, goInt, hsize]
  · cases h
theorem run_minmax {ts : Array TypeId} {ty : TypeId} {mx : Bool} {ds : List D} {d : D} {vs : List Value} (hl : vs.length = ds.length) (hx : ∀ (i : Nat) (v : Value) (x : D), vs[i]? = some v → ds[i]? = some x → Den c ν F w v x) (h : dminmax mx ds = some d) :
    ∃ u, (if mx then Builtin.max_ ts ty vs.toArray else Builtin.min_ ts ty vs.toArray).run P w = .ok u w ∧ Den c ν F w u d := by
  unfold dminmax at h
  split at h
  · rename_i k a k' b
    injection h with h
    subst h
    match vs, hl with
    | [v1, v2], _ =>
      have e1 := (hx 0 v1 _ rfl rfl).int_
      have e2 := (hx 1 v2 _ rfl rfl).int_
      subst e1 e2
      cases mx
      · exact ⟨_, rfl, .pure _ _ (.int _ _)⟩
      · exact ⟨_, rfl, .pure _ _ (.int _ _)⟩
  · cases h
end
end Go.Av
namespace Go.Av
open Go.RowKit
variable [Gs]

section
variable {P : Program} {c : Nat → Nat} {ν : Nat → Nat → Nat} {F : Nat → Nat → Prop} {w : World}

theorem Den.oneCell_ {v : Value} {d : D} (h : Den c ν F w v d) (hd : ∀ cs, d ≠ .agg cs) (hk : okPart d = true) : v.oneCell' = true := by
  cases d with
  | bad => cases hk
  | tuple cs => cases hk
  | agg cs => exact absurd rfl (hd cs)
  | bool b => rw [h.bool_]; rfl
  | int k n => rw [h.int_]; rfl
  | str l => rw [h.str_]; rfl
  | con u =>
    obtain ⟨rfl, hu⟩ := h.con_
    cases v <;> simp [isCon, Value.oneCell'] at hu ⊢
  | list es => exact h.list_.oneCell (by simp)
  | fix d off => exact h.fix_.oneCell (by simp)
  | ptr k g off => rw [h.ptr_.1]; rfl
  | row k g n sz ag =>
    obtain ⟨cap, rfl, _⟩ := h.row_
    rfl
  | iface t d => obtain ⟨u, rfl, _⟩ := h.iface_; rfl
  | func fn f cp => obtain ⟨fs, cs, rfl, _⟩ := h.func_; rfl
  | imap ks ds => cases h with | pure _ _ h => cases h; rfl
theorem Den.cells {v : Value} {d : D} (h : Den c ν F w v d) (hk : okPart d = true) : v.cells.toList.length = (dcells d).length ∧ (∀ u ∈ v.cells.toList, u.oneCell' = true) ∧
    ∀ (i : Nat) (u : Value) (x : D), v.cells.toList[i]? = some u → (dcells d)[i]? = some x → Den c ν F w u x := by
  by_cases hd : ∃ cs, d = .agg cs
  · obtain ⟨cs, rfl⟩ := hd
    obtain ⟨vs, rfl, h1, h2, h3⟩ := h.agg_
    exact ⟨by simpa [Value.cells, dcells] using h1, by simpa [Value.cells] using h2, by simpa [Value.cells, dcells] using h3⟩
  · have h1 := h.oneCell_ (fun cs e => hd ⟨cs, e⟩) hk
    have h2 : v.cells = #[v] := by cases v <;> simp_all [Value.cells, Value.oneCell']
    have h3 : dcells d = [d] := by
      cases d with
      | agg cs => exact absurd ⟨cs, rfl⟩ hd
      | _ => rfl
    rw [h2, h3]
    refine ⟨rfl, by simpa using h1, fun i u x hu hx => ?_⟩
    cases i with
    | zero =>
      simp at hu hx
      subst hu hx
      exact h
    | succ i => simp at hu
theorem zero_den {z : Value} {zs : List D} (h : zeroCells z = some zs) : z.cells.toList.length = zs.length ∧ (∀ u ∈ z.cells.toList, u.oneCell' = true) ∧
    ∀ (i : Nat) (u : Value) (x : D), z.cells.toList[i]? = some u → zs[i]? = some x → Den c ν F w u x := by
  have one : ∀ v : Value, v.cells = #[v] → v.oneCell' = true → zeroCells v = some [cval1 v] → zeroCells v = some zs → v.cells.toList.length = zs.length ∧ (∀ u ∈ v.cells.toList, u.oneCell' = true) ∧
      ∀ (i : Nat) (u : Value) (x : D), v.cells.toList[i]? = some u → zs[i]? = some x → Den c ν F w u x := by
    intro v h1 h2 h3 h4
    rw [h3] at h4
    injection h4 with h4
    subst h4
    rw [h1]
    refine ⟨rfl, by simpa using h2, fun i u x hu hx => ?_⟩
    cases i with
    | zero =>
      simp at hu hx
      subst hu hx
      exact cval1_den _
    | succ i => simp at hu
  cases z with
  | agg vs =>
    simp only [zeroCells] at h
    split at h
    · rename_i hv
      injection h with h
      subst h
      refine ⟨by simp [Value.cells], by simpa [Value.cells] using List.all_eq_true.1 hv, fun i u x hu hx => ?_⟩
      simp only [Value.cells] at hu
      rw [List.getElem?_map, hu] at hx
      simp at hx
      subst hx
      exact cval1_den u
    · cases h
  | tuple vs => simp [zeroCells] at h
  | _ => exact one _ rfl rfl rfl h
theorem laid {off : Nat} {vs : List Value} {cells : Array Value} (h : off + vs.length ≤ cells.size) :
    (vs.zipIdx.foldl (fun cs (x : Value × Nat) => cs.setIfInBounds (off + x.2) x.1) cells).toList = cells.toList.take off ++ vs ++ cells.toList.drop (off + vs.length) := by
  obtain ⟨h1, h2⟩ := Great.foldl_set off vs 0 cells
  apply List.ext_getElem?
  intro k
  rw [Array.getElem?_toList, h2 k]
  simp only [Nat.add_zero]
  by_cases hk : off ≤ k ∧ k < off + vs.length ∧ k < cells.size
  · rw [if_pos hk, List.append_assoc, List.getElem?_append_right (by simp; omega)]
    rw [List.getElem?_append_left (by simp; omega)]
    congr 1
    simp
    omega
  · rw [if_neg hk]
    by_cases hlt : k < off
    · rw [List.append_assoc, List.getElem?_append_left (by simp; omega), List.getElem?_take, if_pos hlt, Array.getElem?_toList]
    · rw [List.getElem?_append_right (by simp; omega), List.getElem?_drop, Array.getElem?_toList]
      congr 1
      simp
      omega
theorem pointwise_laid {R : Value → D → Prop} {vs us : List Value} {ds cs : List D} {off : Nat} (hl : us.length = cs.length) (hr : ∀ (i : Nat) (v : Value) (x : D), us[i]? = some v → cs[i]? = some x → R v x)
    (hl' : vs.length = ds.length) (hr' : ∀ (i : Nat) (v : Value) (x : D), vs[i]? = some v → ds[i]? = some x → R v x) :
    (us.take off ++ vs ++ us.drop (off + vs.length)).length = (cs.take off ++ ds ++ cs.drop (off + ds.length)).length ∧
    ∀ (i : Nat) (v : Value) (x : D), (us.take off ++ vs ++ us.drop (off + vs.length))[i]? = some v → (cs.take off ++ ds ++ cs.drop (off + ds.length))[i]? = some x → R v x := by
  refine ⟨by simp [hl, hl'], fun i v x hv hx => ?_⟩
  have e1 : (us.take off).length = (cs.take off).length := by simp [hl]
  by_cases h1 : i < (us.take off).length
  · rw [List.append_assoc, List.getElem?_append_left h1] at hv
    rw [List.append_assoc, List.getElem?_append_left (by omega)] at hx
    rw [List.getElem?_take] at hv hx
    split at hv
    · rename_i h
      rw [if_pos h] at hx
      exact hr _ _ _ hv hx
    · cases hv
  · rw [List.append_assoc, List.getElem?_append_right (by omega)] at hv hx
    rw [← e1] at hx
    by_cases h2 : i - (us.take off).length < vs.length
    · rw [List.getElem?_append_left h2] at hv
      rw [List.getElem?_append_left (by omega)] at hx
      exact hr' _ _ _ hv hx
    · rw [List.getElem?_append_right (by omega)] at hv hx
      rw [List.getElem?_drop] at hv hx
      rw [← hl'] at hx
      exact hr _ _ _ hv hx
theorem run_dfill {place : Nat → Option (Nat × Nat)} : ∀ {parts : List (Nat × D)} {vparts : List (Nat × Value)} {cells : Array Value} {cs r : List D}, vparts.length = parts.length →
    (∀ (i : Nat) (v : Nat × Value) (x : Nat × D), vparts[i]? = some v → parts[i]? = some x → v.1 = x.1 ∧ Den c ν F w v.2 x.2) →
    cells.toList.length = cs.length → (∀ u ∈ cells.toList, u.oneCell' = true) → (∀ (i : Nat) (u : Value) (x : D), cells.toList[i]? = some u → cs[i]? = some x → Den c ν F w u x) →
    dfill place cs parts = some r → ∃ cells', Instr.fill place cells vparts = some cells' ∧ cells'.toList.length = r.length ∧ (∀ u ∈ cells'.toList, u.oneCell' = true) ∧
      ∀ (i : Nat) (u : Value) (x : D), cells'.toList[i]? = some u → r[i]? = some x → Den c ν F w u x
  | [], [], cells, cs, r, _, _, h1, h2, h3, h => by
    simp only [dfill] at h
    injection h with h
    subst h
    exact ⟨cells, rfl, h1, h2, h3⟩
  | (i, d) :: parts, (j, v) :: vparts, cells, cs, r, hl, hp, h1, h2, h3, h => by
    obtain ⟨e1, hd⟩ := hp 0 _ _ rfl rfl
    simp only at e1 hd
    subst e1
    simp only [dfill] at h
    split at h
    · cases h
    · rename_i off size hpl
      split at h
      · rename_i hc
        obtain ⟨hc1, hc2, hc3⟩ := hc
        obtain ⟨k1, k2, k3⟩ := hd.cells hc3
        have hsz : v.cells.size = size := by rw [← hc1, ← k1]; simp
        have hle : off + v.cells.size ≤ cells.size := by rw [hsz]; have : cells.size = cs.length := by simpa using h1
                                                         omega
        have hlaid := laid (off := off) (vs := v.cells.toList) (cells := cells) (by simpa using hle)
        have hpw := pointwise_laid (off := off) h1 h3 k1 k3
        rw [hc1] at hpw
        have ih := run_dfill (place := place) (parts := parts) (vparts := vparts) (cells := v.cells.toList.zipIdx.foldl (fun cs (x : Value × Nat) => cs.setIfInBounds (off + x.2) x.1) cells)
          (by simpa using hl) (fun i v x hv hx => hp (i + 1) v x hv hx) (by rw [hlaid]; exact hpw.1) (by
            rw [hlaid]
            intro u hu
            simp only [List.mem_append] at hu
            rcases hu with (hu | hu) | hu
            · exact h2 u (List.mem_of_mem_take hu)
            · exact k2 u hu
            · exact h2 u (List.mem_of_mem_drop hu)) (by rw [hlaid]; exact hpw.2) h
        obtain ⟨cells', hf, hrest⟩ := ih
        refine ⟨cells', ?_, hrest⟩
        simp only [Instr.fill, hpl]
        rw [if_neg (by simp only [Bool.or_eq_true, decide_eq_true_eq, ne_eq]; omega)]
        rw [← hf]
        congr 1
        rw [← Array.foldl_toList]
        simp
      · cases h
end
end Go.Av
namespace Go.Av
open Go.RowKit
variable [Gs]

def Lt (F : Nat → Nat → Prop) (w : World) : Prop := ∀ b o, F b o → b < w.heap.size
def fixing (F : Nat → Nat → Prop) (g m : Nat) : Nat → Nat → Prop := fun b o => F b o ∨ (b = g ∧ o < m)
def RowAt (P : Program) (F : Nat → Nat → Prop) (w : World) (e : TypeId) (v : Value) (n g : Nat) : Prop :=
  ∃ cap cur i, v = .slice (some ⟨g, 0, none⟩) n cap ∧ w.heap[g]? = some (.cells cur e (0, 0)) ∧ n ≤ cap ∧ P.info? e = some i ∧ cur.size = cap * i.size ∧ ∀ o, n * i.size ≤ o → ¬ F g o
def Own (P : Program) (F : Nat → Nat → Prop) (w : World) (e : TypeId) (v : Value) (n : Nat) : Option Nat → Prop
  | none => ∃ a, v = .slice a n n
  | some g => RowAt P F w e v n g

section
variable {P : Program} {c : Nat → Nat} {ν : Nat → Nat → Nat} {F : Nat → Nat → Prop} {w : World}

theorem ext_alloc (hlt : Lt F w) (o : Obj) (m : Nat) : Ext (fun _ => False) F w (fixing F w.heap.size m) (w.alloc o) :=
  ⟨rfl, rfl, rfl, by simp, fun b hb _ => Below.heap_alloc w o b hb, fun b o h => .inl h, fun b o h => World.cell?_of_block (a := ⟨b, o, none⟩) (Below.heap_alloc w _ b (hlt b o h)), fun b es c h hm => (Below.heap_alloc w o b (hlt b 0 h)).trans hm⟩
theorem ext_alloc0 (hlt : Lt F w) (o : Obj) : Ext (fun _ => False) F w F (w.alloc o) :=
  ⟨rfl, rfl, rfl, by simp, fun b hb _ => Below.heap_alloc w o b hb, fun b o h => h, fun b o h => World.cell?_of_block (a := ⟨b, o, none⟩) (Below.heap_alloc w _ b (hlt b o h)), fun b es c h hm => (Below.heap_alloc w o b (hlt b 0 h)).trans hm⟩
theorem lt_alloc (hlt : Lt F w) (o : Obj) (m : Nat) : Lt (fixing F w.heap.size m) (w.alloc o) := by
  rintro b q (h | ⟨rfl, _⟩)
  · have := hlt b q h
    simp
    omega
  · simp
theorem lt_alloc0 (hlt : Lt F w) (o : Obj) : Lt F (w.alloc o) := fun b q h => by
  have := hlt b q h
  simp
  omega
theorem drew_ext {S : Nat → Prop} {F' : Nat → Nat → Prop} {w' : World} (h : Ext S F w.drew F' w') : Ext S F w F' w' := ⟨h.os, h.tape, h.output, h.size, h.block, h.fixed, h.cell, h.maps⟩

theorem cells_alloc (w : World) (cs : List Value) (e : TypeId) (i : Nat) : (w.alloc (.cells cs.toArray e)).cell? ⟨w.heap.size, i, none⟩ = cs[i]? := by
  have := cell_of_row (w.alloc (.cells cs.toArray e)) w.heap.size i cs.toArray e (0, 0) (heap_alloc_new w _)
  rw [this]
  simp
theorem cells_len : ∀ {vs : List Value} {sz : Nat}, (∀ v ∈ vs, v.cells.size = sz) → (vs.flatMap fun v => v.cells.toList).length = vs.length * sz
  | [], sz, _ => by simp
  | v :: vs, sz, h => by
    have := cells_len (vs := vs) (sz := sz) fun u hu => h u (by simp [hu])
    simp only [List.flatMap_cons, List.length_append, List.length_cons, Nat.succ_mul, this, Array.length_toList, h v (by simp)]
    omega
theorem flat_cons (e : D) (es : List D) : flat (e :: es) = dcells e ++ flat es := by simp [flat]
theorem parts_den : ∀ {k sz : Nat} {parts : List (Nat × D)} {vparts : List (Nat × Value)} {es : List D}, vparts.length = parts.length →
    (∀ (i : Nat) (v : Nat × Value) (x : Nat × D), vparts[i]? = some v → parts[i]? = some x → v.1 = x.1 ∧ Den c ν F w v.2 x.2) → dparts k sz parts = some es →
    ∃ vs : List Value, vparts = (vs.zipIdx k).map (fun x => (x.2, x.1)) ∧ vs.length = es.length ∧ (∀ v ∈ vs, v.cells.size = sz) ∧ (∀ e ∈ es, (dcells e).length = sz) ∧
      (∀ u ∈ vs.flatMap (fun v => v.cells.toList), u.oneCell' = true) ∧
      ∀ (i : Nat) (u : Value) (x : D), (vs.flatMap fun v => v.cells.toList)[i]? = some u → (flat es)[i]? = some x → Den0 F w u x
  | _, _, [], [], es, _, _, h => by
    simp only [dparts] at h
    injection h with h
    subst h
    exact ⟨[], rfl, rfl, by simp, by simp, by simp, fun i u x hu => by simp at hu⟩
  | k, sz, (i, d) :: parts, (j, v) :: vparts, es, hl, hp, h => by
    obtain ⟨e1, hd⟩ := hp 0 _ _ rfl rfl
    simp only at e1 hd
    subst e1
    simp only [dparts] at h
    split at h
    · rename_i hc
      obtain ⟨rfl, hc2, hc3⟩ := hc
      obtain ⟨es', hes, rfl⟩ := Option.map_eq_some_iff.1 h
      obtain ⟨vs, e2, h1, h2, h3, h4, h5⟩ := parts_den (k := j + 1) (vparts := vparts) (by simpa using hl) (fun i v x hv hx => hp (i + 1) v x hv hx) hes
      obtain ⟨k1, k2, k3⟩ := (hd.pureB_ hc3).cells
      refine ⟨v :: vs, by simp [e2, List.zipIdx_cons], by simp [h1], ?_, ?_, ?_, ?_⟩
      · intro u hu
        rcases List.mem_cons.1 hu with rfl | hu
        · rw [← hc2, ← k1]; simp
        · exact h2 u hu
      · intro u hu
        rcases List.mem_cons.1 hu with rfl | hu
        · exact hc2
        · exact h3 u hu
      · intro u hu
        simp only [List.flatMap_cons, List.mem_append] at hu
        rcases hu with hu | hu
        · exact k2 u hu
        · exact h4 u hu
      · intro i u x hu hx
        simp only [List.flatMap_cons, flat_cons] at hu hx
        by_cases hi : i < v.cells.toList.length
        · rw [List.getElem?_append_left hi] at hu
          rw [List.getElem?_append_left (by omega)] at hx
          exact k3 _ _ _ hu hx
        · rw [List.getElem?_append_right (by omega)] at hu hx
          rw [← k1] at hx
          exact h5 _ _ _ hu hx
    · cases h
theorem run_buildSlice_ {t : TypeId} {n : Nat} {parts : List (Nat × D)} {vparts : Array (Nat × Value)} {d : D} (hlt : Lt F w) (hl : vparts.toList.length = parts.length)
    (hp : ∀ (i : Nat) (v : Nat × Value) (x : Nat × D), vparts.toList[i]? = some v → parts[i]? = some x → v.1 = x.1 ∧ Den c ν F w v.2 x.2) (h : dbuildSlice P t n parts = some d) :
    ∃ a F' w' es, d = .list es ∧ n = es.length ∧ (Instr.buildSlice t n vparts).run P w = .ok (.slice a n n) w' ∧ Ext (fun _ => False) F w F' w' ∧ Lt F' w' ∧ (∀ b o, F' b o → F b o ∨ w.heap.size ≤ b) ∧ Den0 F' w' (.slice a n n) (.list es) ∧ ∃ C e, a = some ⟨w.heap.size, 0, none⟩ ∧ w'.heap[w.heap.size]? = some (.cells C e (0, 0)) := by
  unfold dbuildSlice at h
  split at h
  · cases h
  rename_i e he
  have ht := elem_of he
  split at h
  · cases h
  · cases h
  rename_i sz hsz0 hsz
  obtain ⟨ie, hie, rfl⟩ := info_of_sizeT hsz
  have hpos : 0 < ie.size := Nat.pos_of_ne_zero fun e0 => hsz0 e0
  split at h
  · rename_i hn
    obtain ⟨hn1, hn2, hn3⟩ := hn
    obtain ⟨es, hes, rfl⟩ := Option.map_eq_some_iff.1 h
    rw [hie] at hn3
    obtain ⟨z, hz⟩ := Option.isSome_iff_exists.1 hn3
    simp only [Option.bind_some] at hz
    obtain ⟨vs, e1, h1, h2, h3, h4, h5⟩ := parts_den (c := c) (ν := ν) (F := F) (w := w) hl hp hes
    have hvn : vs.length = n := by
      rw [← hn1, ← hl, e1]
      simp
    refine ⟨some ⟨w.heap.size, 0, none⟩, fixing F w.heap.size (n * ie.size), w.alloc (.cells (vs.flatMap fun v => v.cells.toList).toArray e), es, rfl, by rw [← h1, hvn], ?_, ext_alloc hlt _ _, lt_alloc hlt _ _, ?_, ?_, _, _, rfl, heap_alloc_new w _⟩
    · by_cases h0 : n = 0
      · subst h0
        have hvs : vs = [] := List.length_eq_zero_iff.1 hvn
        subst hvs
        have hvp : vparts = #[] := by
          apply Array.ext'
          rw [e1]
          rfl
        subst hvp
        simp [Instr.buildSlice, run_underlying ht, run_sizeOf_ hsz, newRow, Instr.fill, Array.range_zero']
      · have hp0 : ¬ n * ie.size = 0 := by
          have := Nat.mul_pos (Nat.pos_of_ne_zero h0) hpos
          omega
        refine run_buildSlice w t e n vparts _ ie z ht hie hz (by omega) hp0 ?_
        rw [e1]
        refine Great.fill_whole hpos vs _ h2 ?_
        simp [hvn]
    · rintro b o (h | ⟨rfl, _⟩)
      · exact .inl h
      · exact .inr (Nat.le_refl _)
    · have hE := ext_alloc (w := w) hlt (.cells (vs.flatMap fun v => v.cells.toList).toArray e) (n * ie.size)
      have hfl : (vs.flatMap fun v => v.cells.toList).length = n * ie.size := by
        rw [cells_len h2, hvn]
      refine .list _ n n ie.size es _ (by rw [← h1, hvn]) (Nat.le_refl _) hpos h3 hfl (.inr ⟨w.heap.size, 0, rfl, ?_⟩) ?_
      · intro i v hi
        have hilt : i < n * ie.size := by rw [← hfl]; exact (List.getElem?_eq_some_iff.1 hi).1
        refine ⟨.inr ⟨rfl, by omega⟩, ?_, h4 v (List.mem_of_getElem? hi)⟩
        rw [Nat.zero_add, cells_alloc]
        exact hi
      · intro i v x hv hx
        exact (h5 i v x hv hx).ext hE
  · cases h
theorem infoOk_spec {i : TypeInfo} (h : infoOk i = true) : i.bytes ≤ 4096 ∧ 0 < i.size ∧ ∃ z, i.zero = some z ∧ z.cells.size = i.size := by
  unfold infoOk at h
  simp only [Bool.and_eq_true, decide_eq_true_eq] at h
  obtain ⟨⟨h1, h2⟩, h3⟩ := h
  refine ⟨h1, h2, ?_⟩
  cases hz : i.zero with
  | none => rw [hz] at h3; cases h3
  | some z => rw [hz] at h3; exact ⟨z, rfl, by simpa using h3⟩
theorem run_make_ {t : TypeId} {l d : D} {e : TypeId} {vl vc : Value} (hlt : Lt F w) (hl : Den c ν F w vl l) (hc : Den c ν F w vc d) (h : dmake P t l d = some e) :
    ∃ v w', (Instr.makeSlice t vl vc).run P w = .ok v w' ∧ Ext (fun _ => False) F w F w' ∧ Lt F w' ∧ Den0 F w' v (.list []) ∧ Own P F w' e v 0 (some w.heap.size) := by
  unfold dmake at h
  split at h
  · rename_i e' kl kc n he
    have ht := elem_of he
    split at h
    · rename_i i hi
      split at h
      · rename_i hb
        obtain ⟨hb1, hb2, hb3⟩ := hb
        obtain ⟨hb3, hb4, z, hz, hzs⟩ := infoOk_spec hb3
        injection h with h
        subst h
        · rw [hl.int_, hc.int_]
          have hby : (i.bytes : Int) * n ≤ 281474976710656 := by
            have h1 : (i.bytes : Int) * n ≤ 4096 * n := Int.mul_le_mul_of_nonneg_right (by omega) hb1
            have h2 : (4096 : Int) * n ≤ 4096 * 1073741824 := Int.mul_le_mul_of_nonneg_left hb2 (by decide)
            omega
          have hrun := run_make (P := P) w t e' i z ht hi hz kl kc 0 n (Int.le_refl _) hb1 hby (by omega)
          refine ⟨_, _, hrun, ext_alloc0 hlt _, lt_alloc0 hlt _, ?_, ?_⟩
          · exact .list _ 0 _ 1 [] [] rfl (Nat.zero_le _) (by decide) (fun e he => by simp at he) rfl (.inl rfl) (fun i v x hv => by simp at hv)
          · exact ⟨_, _, i, rfl, heap_alloc_new w _, Nat.zero_le _, hi, size_madeCells _ _, fun o _ hF => Nat.lt_irrefl _ (hlt _ _ hF)⟩
      · cases h
    · cases h
  · cases h
theorem szOk_spec {sz s : Nat} {es : List D} (h : szOk sz es = true) (hs : ∀ e ∈ es, (dcells e).length = s) (hne : es ≠ []) : s = sz := by
  cases es with
  | nil => exact absurd rfl hne
  | cons e es =>
    simp only [szOk, beq_iff_eq] at h
    rw [← hs e (by simp), h]
theorem Den0.list_at {v : Value} {es : List D} {sz : Nat} (h : Den0 F w v (.list es)) (hsz : szOk sz es = true) (hp : 0 < sz) : ∃ a n cp vs, v = .slice a n cp ∧ es.length = n ∧ n ≤ cp ∧ (∀ e ∈ es, (dcells e).length = sz) ∧ vs.length = n * sz ∧
    (vs = [] ∨ ∃ b off, a = some ⟨b, off, none⟩ ∧ CellsAt F w b off vs) ∧ (∀ (i : Nat) (v : Value) (x : D), vs[i]? = some v → (flat es)[i]? = some x → Den0 F w v x) := by
  cases h with
  | list a n cp s _ vs h1 h2 h3 h4 h5 h6 h7 =>
    by_cases hne : es = []
    · subst hne
      simp at h1
      subst h1
      simp at h5
      exact ⟨a, 0, cp, [], rfl, rfl, h2, fun e he => by simp at he, by simp, .inl rfl, fun i v x hv => by simp at hv⟩
    · have := szOk_spec hsz h4 hne
      subst this
      exact ⟨a, n, cp, vs, rfl, h1, h2, h4, h5, h6, h7⟩
theorem cells_add {b off : Nat} {vs : List Value} (h : CellsAt F w b off vs) : ∀ j u, vs[j]? = some u → w.cell? ((⟨b, off, none⟩ : Addr).add j) = some u := fun j u hj => by
  rw [addr_add]
  exact (h j u hj).2.1
theorem den0_mem {vs : List Value} {b off : Nat} (h : CellsAt F w b off vs) : ∀ u ∈ vs, u.oneCell' = true := fun u hu => by
  obtain ⟨i, hi⟩ := List.getElem?_of_mem hu
  exact (h i u hi).2.2
theorem den_row {es fs : List D} {sz m : Nat} {olds news : List Value} {cap : Nat} {e : TypeId} {rest : List Value} {i : TypeInfo} (hlt : Lt F w) (hi : P.info? e = some i) (hsz : i.size = sz) (hp : 0 < sz)
    (he : ∀ x ∈ es, (dcells x).length = sz) (hf : ∀ x ∈ fs, (dcells x).length = sz) (ho : olds.length = es.length * sz) (hn : news.length = fs.length * sz) (h1 : ∀ u ∈ olds ++ news, u.oneCell' = true)
    (hd : ∀ (i : Nat) (v : Value) (x : D), (olds ++ news)[i]? = some v → (flat (es ++ fs))[i]? = some x → Den0 F w v x) (hm : m = es.length + fs.length) (hc : m ≤ cap) (hr : rest.length = (cap - m) * sz) :
    Ext (fun _ => False) F w (fixing F w.heap.size (m * sz)) (w.alloc (.cells (olds ++ news ++ rest).toArray e)) ∧ Lt (fixing F w.heap.size (m * sz)) (w.alloc (.cells (olds ++ news ++ rest).toArray e)) ∧
    Den0 (fixing F w.heap.size (m * sz)) (w.alloc (.cells (olds ++ news ++ rest).toArray e)) (.slice (some ⟨w.heap.size, 0, none⟩) m cap) (.list (es ++ fs)) ∧
    Own P (fixing F w.heap.size (m * sz)) (w.alloc (.cells (olds ++ news ++ rest).toArray e)) e (.slice (some ⟨w.heap.size, 0, none⟩) m cap) m (some w.heap.size) := by
  have hE := ext_alloc (w := w) hlt (.cells (olds ++ news ++ rest).toArray e) (m * sz)
  have hlen : (olds ++ news).length = m * sz := by rw [List.length_append, ho, hn, hm, Nat.add_mul]
  refine ⟨hE, lt_alloc hlt _ _, ?_, ?_⟩
  · refine .list _ m cap sz (es ++ fs) (olds ++ news) (by simp [hm]) hc hp ?_ hlen (.inr ⟨_, 0, rfl, ?_⟩) ?_
    · intro x hx
      rcases List.mem_append.1 hx with hx | hx
      · exact he x hx
      · exact hf x hx
    · intro j v hj
      have hjl : j < m * sz := by rw [← hlen]; exact (List.getElem?_eq_some_iff.1 hj).1
      refine ⟨.inr ⟨rfl, by omega⟩, ?_, h1 v (List.mem_of_getElem? hj)⟩
      rw [Nat.zero_add, cells_alloc, List.getElem?_append_left (by omega)]
      exact hj
    · intro j v x hv hx
      exact (hd j v x hv hx).ext hE
  · refine ⟨cap, _, i, rfl, heap_alloc_new w _, hc, hi, ?_, ?_⟩
    · have : (olds ++ news ++ rest).length = cap * i.size := by
        rw [List.length_append, hlen, hr, hsz, ← Nat.add_mul]
        congr 1
        omega
      simpa using this
    · intro o ho hF
      rcases hF with hF | ⟨_, hF⟩
      · exact Nat.lt_irrefl _ (hlt _ _ hF)
      · rw [hsz] at ho
        omega
end
end Go.Av
namespace Go.Av
open Go.RowKit
variable [Gs]

section
variable {P : Program} {c : Nat → Nat} {ν : Nat → Nat → Nat} {F : Nat → Nat → Prop} {w : World}

theorem run_app0 (w : World) {t ty e : TypeId} {sz n cp m' : Nat} {a b : Option Addr} (ht : P.underlying t = some (.slice e)) (hsz : sizeT P e = some sz) (hn : n ≤ cp) :
    (Builtin.append_ #[t, t] ty #[.slice a n cp, .slice b 0 m']).run P w = .ok (.slice a n cp) w := by
  have hc0 : ∀ ad : Addr, (loadCells ad 0).run P w = .ok #[] w := fun ad => by simp [loadCells, loadCellsFrom]
  cases a <;> cases b <;> simp [Builtin.append_, run_underlying ht, run_sizeOf_ hsz, Builtin.lenOf, Builtin.firstCells, hn, storeCells, hc0]

theorem run_append_ {ts : Array TypeId} {ty e : TypeId} {x y d : D} {r : List Room} {vx vy : Value} {cl : Option Nat} (hlt : Lt F w) (hx : Den c ν F w vx x) (hy : Den c ν F w vy y)
    (hown : ∀ es, x = .list es → Own P F w e vx es.length cl) (h : dappend P ts x y r = some (d, e)) :
    ∃ v' w' F' cl' es, d = .list es ∧ (Builtin.append_ ts ty #[vx, vy]).run P w = .ok v' w' ∧ Ext (fun b => cl = some b) F w F' w' ∧ Lt F' w' ∧ Den0 F' w' v' (.list es) ∧ Own P F' w' e v' es.length cl' ∧
      (∀ g, cl' = some g → cl = some g ∨ w.heap.size ≤ g) ∧ (∀ b o, F' b o → F b o ∨ w.heap.size ≤ b ∨ cl = some b) := by
  unfold dappend at h
  split at h
  · rename_i t u hts
    split at h
    · rename_i htu
      subst htu
      have hts' : ts = #[t, t] := by
        apply Array.ext'
        exact hts
      subst hts'
      split at h
      · rename_i e' es fs he
        split at h
        · rename_i i hi
          split at h
          · rename_i hcond
            obtain ⟨hb1, hb2, hb3, hb4, hb5⟩ := hcond
            obtain ⟨hby, hpos, z, hz, hzs⟩ := infoOk_spec hb2
            have hb0 := (lenOk_spec hb1 hby).1
            injection h with h
            injection h with h1 h2
            subst h1 h2
            have ht := elem_of he
            have hsz : sizeT P e' = some i.size := by simp [sizeT, hi]
            obtain ⟨ay, m, cy, news, rfl, hm, hmc, hfs, hnl, hncell, hnd⟩ := hy.list_.list_at hb3 hpos
            obtain ⟨ax, n, cx, olds, rfl, hn, hnc, hes, hol, hocell, hod⟩ := hx.list_.list_at hb4 hpos
            have hO := hown es rfl
            subst hn hm
            by_cases hf0 : fs = []
            · subst hf0
              exact ⟨_, w, F, cl, es, by simp, run_app0 w ht hsz hnc, Ext.refl _ _ _, hlt, hx.list_, hO, fun g hg => .inl hg, fun b o hF => .inl hF⟩
            · have hmp : 0 < fs.length := List.length_pos_iff.2 hf0
              have hnews : news ≠ [] := by
                intro e0
                rw [e0] at hnl
                have := Nat.mul_pos hmp hpos
                simp at hnl
                omega
              obtain ⟨b1, off1, rfl, hn1⟩ := hncell.resolve_left hnews
              have hone := den0_mem hn1
              have h1' : ∀ u ∈ olds ++ news, u.oneCell' = true := by
                intro u hu
                rcases List.mem_append.1 hu with hu | hu
                · rcases hocell with rfl | ⟨b, off, rfl, hc⟩
                  · simp at hu
                  · exact den0_mem hc u hu
                · exact hone u hu
              have hd' : ∀ (i : Nat) (v : Value) (x : D), (olds ++ news)[i]? = some v → (flat (es ++ fs))[i]? = some x → Den0 F w v x := by
                intro j v x hv hx
                rw [flat_append] at hx
                have hfl : (flat es).length = olds.length := by rw [flat_len hes, hol]
                by_cases hj : j < olds.length
                · rw [List.getElem?_append_left hj] at hv
                  rw [List.getElem?_append_left (by omega)] at hx
                  exact hod _ _ _ hv hx
                · rw [List.getElem?_append_right (by omega)] at hv hx
                  rw [hfl] at hx
                  exact hnd _ _ _ hv hx
              have hlen : (es.length + fs.length) * i.bytes ≤ 140737488355328 := by
                exact (lenOk_spec hb1 hby).2
              have grow : ∀ cap old : Nat, cx = old → old < es.length + fs.length → cap = grownCap w (es.length + fs.length) old e' →
                  (Builtin.append_ #[t, t] ty #[.slice ax es.length old, .slice (some ⟨b1, off1, none⟩) fs.length cy]).run P w =
                    .ok (.slice (some ⟨w.heap.size, 0, none⟩) (es.length + fs.length) cap) (w.drew.alloc (.cells (olds ++ news ++ (Builtin.zeroCells z.cells (cap - (es.length + fs.length))).toList).toArray e')) →
                  ∃ v' w' F' cl' es', D.list (es ++ fs) = .list es' ∧ (Builtin.append_ #[t, t] ty #[.slice ax es.length old, .slice (some ⟨b1, off1, none⟩) fs.length cy]).run P w = .ok v' w' ∧ Ext (fun b => cl = some b) F w F' w' ∧ Lt F' w' ∧ Den0 F' w' v' (.list es') ∧ Own P F' w' e' v' es'.length cl' ∧
                    (∀ g, cl' = some g → cl = some g ∨ w.heap.size ≤ g) ∧ (∀ b o, F' b o → F b o ∨ w.heap.size ≤ b ∨ cl = some b) := by
                intro cap old _ hlt' hcap hrun
                have hge : es.length + fs.length ≤ cap := by rw [hcap]; exact grownCap_ge w _ _ _
                obtain ⟨k1, k2, k3, k4⟩ := den_row (P := P) (F := F) (w := w.drew) (cap := cap) (m := es.length + fs.length) (e := e') (rest := (Builtin.zeroCells z.cells (cap - (es.length + fs.length))).toList)
                  hlt hi rfl hpos hes hfs hol hnl h1' (fun j v x hv hx => (hd' j v x hv hx).ext ((Ext.refl (fun _ => False) F w).drew)) rfl hge (by simp [size_zeroCells, hzs])
                refine ⟨_, _, _, some w.heap.size, es ++ fs, rfl, hrun, ?_, k2, k3, by rw [List.length_append]; exact k4, fun g hg => .inr (by injection hg with hg; rw [← hg]; exact Nat.le_refl _), ?_⟩
                · exact drew_ext (k1.weaken fun b _ hb => hb.elim)
                · rintro b o (hF | ⟨rfl, _⟩)
                  · exact .inl hF
                  · exact .inr (.inl (Nat.le_refl _))
              have h63 : ((es.length + fs.length : Nat) : Int) ≤ 9223372036854775807 := by omega
              have growRun : cx < es.length + fs.length → (Builtin.append_ #[t, t] ty #[.slice ax es.length cx, .slice (some ⟨b1, off1, none⟩) fs.length cy]).run P w =
                  .ok (.slice (some ⟨w.heap.size, 0, none⟩) (es.length + fs.length) (grownCap w (es.length + fs.length) cx e')) (w.drew.alloc (.cells (olds ++ news ++ (Builtin.zeroCells z.cells (grownCap w (es.length + fs.length) cx e' - (es.length + fs.length))).toList).toArray e')) := by
                intro hlt'
                have e1 : (olds ++ news ++ (Builtin.zeroCells z.cells (grownCap w (es.length + fs.length) cx e' - (es.length + fs.length))).toList).toArray = olds.toArray ++ news.toArray ++ Builtin.zeroCells z.cells (grownCap w (es.length + fs.length) cx e' - (es.length + fs.length)) := by
                  apply Array.ext'
                  simp
                rw [e1]
                cases ax with
                | some s0 =>
                  refine run_append_grow (P := P) w t ty e' i z ht hi hz s0 es.length cx olds hol ?_ ⟨b1, off1, none⟩ fs.length cy news hnl (cells_add hn1) hlt' h63 (growslice_fits hlt' hlen)
                  rcases hocell with rfl | ⟨b, off, hab, hc⟩
                  · intro j v hj; simp at hj
                  · injection hab with hab
                    subst hab
                    exact cells_add hc
                | none =>
                  have h0 : olds = [] := by
                    rcases hocell with h | ⟨b, off, hab, _⟩
                    · exact h
                    · cases hab
                  subst h0
                  have hes0 : es.length = 0 := by
                    rcases Nat.eq_zero_or_pos es.length with h | h
                    · exact h
                    · have := Nat.mul_pos h hpos
                      simp at hol
                      omega
                  have hcx0 : cx = 0 := by
                    cases cl with
                    | none =>
                      obtain ⟨a, ha⟩ := hO
                      injection ha with _ _ h3
                      rw [h3, hes0]
                    | some g =>
                      obtain ⟨cap, cur, i', ha, _⟩ := hO
                      injection ha with h1
                      cases h1
                  subst hcx0
                  rw [hes0]
                  simp only [Nat.zero_add]
                  have := run_append_nil (P := P) w t ty e' i z ht hi hz ⟨b1, off1, none⟩ fs.length cy news hnl (cells_add hn1) hmp (by omega) (by rw [hes0] at hlen; simp at hlen; omega)
                  simpa using this
              by_cases hroom : es.length + fs.length ≤ cx
              · cases cl with
                | none =>
                  obtain ⟨a, ha⟩ := hO
                  injection ha with _ _ h3
                  omega
                | some g =>
                  obtain ⟨cap, cur, i', hv, hg, hcap, hi', hcs, htail⟩ := hO
                  rw [hi] at hi'
                  injection hi' with hi'
                  subst hi'
                  injection hv with hv1 _ hv3
                  subst hv1 hv3
                  have hfit : es.length * i.size + news.length ≤ cur.size := by
                    rw [hnl, hcs, ← Nat.add_mul]
                    exact Nat.mul_le_mul_right _ hroom
                  have hrun := run_append_room (P := P) w t ty e' i ht hi g es.length cx cur hg ⟨b1, off1, none⟩ fs.length cy news hnl (cells_add hn1) hone hroom hfit
                  have hnewlen : (cur.toList.take (es.length * i.size) ++ news ++ cur.toList.drop (es.length * i.size + news.length)).length = cur.size := by
                    simp
                    omega
                  have hheap := setRow_heap w g cur (cur.toList.take (es.length * i.size) ++ news ++ cur.toList.drop (es.length * i.size + news.length)).toArray e' (0, 0) hg
                  have hglt : g < w.heap.size := by
                    apply Classical.byContradiction
                    intro hn
                    rw [Array.getElem?_eq_none (by omega)] at hg
                    cases hg
                  have hcell : ∀ o, (w.setRow g (cur.toList.take (es.length * i.size) ++ news ++ cur.toList.drop (es.length * i.size + news.length)).toArray).cell? ⟨g, o, none⟩ = (cur.toList.take (es.length * i.size) ++ news ++ cur.toList.drop (es.length * i.size + news.length))[o]? := fun o => by
                    rw [cell_of_row _ g o _ e' (0, 0) hheap]
                    simp
                  have hold : ∀ o, o < es.length * i.size → (w.setRow g (cur.toList.take (es.length * i.size) ++ news ++ cur.toList.drop (es.length * i.size + news.length)).toArray).cell? ⟨g, o, none⟩ = w.cell? ⟨g, o, none⟩ := fun o ho => by
                    rw [hcell o, cell_of_row w g o cur e' (0, 0) hg, List.append_assoc, List.getElem?_append_left (by simp; omega), List.getElem?_take, if_pos ho]
                    simp
                  have hE : Ext (fun b => some g = some b) F w (fixing F g ((es.length + fs.length) * i.size)) (w.setRow g (cur.toList.take (es.length * i.size) ++ news ++ cur.toList.drop (es.length * i.size + news.length)).toArray) := by
                    refine ⟨rfl, rfl, rfl, by simp [World.setRow], fun b _ hne => setRow_other w g b _ (fun e0 => hne (by rw [e0])), fun b o hF => .inl hF, fun b o hF => ?_, fun b es0 ck hF hm => ?_⟩
                    · by_cases hbg : b = g
                      · subst hbg
                        exact hold o (Nat.lt_of_not_le fun hle => htail o hle hF)
                      · exact World.cell?_of_block (a := ⟨b, o, none⟩) (setRow_other w g b _ hbg)
                    · by_cases hbg : b = g
                      · subst hbg
                        rw [hg] at hm
                        cases hm
                      · exact (setRow_other w g b _ hbg).trans hm
                  refine ⟨_, _, _, some g, es ++ fs, rfl, hrun, hE, ?_, ?_, ?_, fun g' hg' => .inl hg', ?_⟩
                  · rintro b o (hF | ⟨rfl, _⟩)
                    · have := hlt b o hF
                      simpa [World.setRow] using this
                    · simpa [World.setRow] using hglt
                  · refine .list _ _ _ i.size (es ++ fs) (olds ++ news) (by simp) hroom hpos ?_ (by simp [hol, hnl, Nat.add_mul]) (.inr ⟨g, 0, rfl, ?_⟩) ?_
                    · intro x hx
                      rcases List.mem_append.1 hx with hx | hx
                      · exact hes x hx
                      · exact hfs x hx
                    · intro j v hj
                      have hjl : j < (es.length + fs.length) * i.size := by
                        have := (List.getElem?_eq_some_iff.1 hj).1
                        rw [List.length_append, hol, hnl, ← Nat.add_mul] at this
                        exact this
                      refine ⟨.inr ⟨rfl, by omega⟩, ?_, h1' v (List.mem_of_getElem? hj)⟩
                      rw [Nat.zero_add]
                      by_cases hj0 : j < olds.length
                      · rw [hold j (by omega)]
                        rw [List.getElem?_append_left hj0] at hj
                        rcases hocell with h0 | ⟨b, off, hab, hc⟩
                        · rw [h0] at hj0; simp at hj0
                        · injection hab with hab
                          injection hab with hab1 hab2
                          subst hab1 hab2
                          have := (hc j v hj).2.1
                          simpa using this
                      · rw [hcell j, List.append_assoc, List.getElem?_append_right (by simp; omega)]
                        rw [List.getElem?_append_right (by omega)] at hj
                        have hl1 : (cur.toList.take (es.length * i.size)).length = olds.length := by
                          rw [hol, List.length_take]
                          have : cur.toList.length = cur.size := by simp
                          omega
                        rw [hl1, List.getElem?_append_left (by have := (List.getElem?_eq_some_iff.1 hj).1; omega)]
                        exact hj
                    · intro j v x hv hx
                      exact (hd' j v x hv hx).ext hE
                  · refine ⟨cx, _, i, by rw [List.length_append], hheap, by rw [List.length_append]; exact hroom, hi, ?_, ?_⟩
                    · have : (cur.toList.take (es.length * i.size) ++ news ++ cur.toList.drop (es.length * i.size + news.length)).toArray.size = cur.size := by
                        rw [List.size_toArray]
                        exact hnewlen
                      rw [this, hcs]
                    · rw [List.length_append]
                      rintro o ho (hF | ⟨_, hF⟩)
                      · exact htail o (Nat.le_trans (Nat.mul_le_mul_right _ (by omega)) ho) hF
                      · omega
                  · rintro b o (hF | ⟨rfl, _⟩)
                    · exact .inl hF
                    · exact .inr (.inr rfl)
              · exact grow _ cx rfl (by omega) rfl (growRun (by omega))
          · cases h
        · cases h
      · cases h
    · cases h
  · cases h
end
end Go.Av
namespace Go.Av
open Go.RowKit
variable [Gs]

section
variable {P : Program} {c : Nat → Nat} {ν : Nat → Nat → Nat} {F : Nat → Nat → Prop} {w : World}

theorem bytesOf_spec : ∀ {es : List D} {l : List UInt8}, bytesOf es = some l → ∃ ns : List Int, es = ns.map (D.int .u8) ∧ l = ns.map (fun n => UInt8.ofNat n.toNat)
  | [], l, h => by simp only [bytesOf] at h; injection h with h; subst h; exact ⟨[], rfl, rfl⟩
  | d :: es, l, h => by
    unfold bytesOf at h
    split at h
    · rename_i e; cases e
    · rename_i n r e
      injection e with e1 e2
      subst e1 e2
      obtain ⟨l', hl', rfl⟩ := Option.map_eq_some_iff.1 h
      obtain ⟨ns, rfl, rfl⟩ := bytesOf_spec hl'
      exact ⟨n :: ns, rfl, rfl⟩
    · cases h
theorem push_bytes : ∀ (ns : List Int) (s : ByteArray), ns.foldl (fun r n => r.push (UInt8.ofNat n.toNat)) s = ⟨(s.data.toList ++ ns.map fun n => UInt8.ofNat n.toNat).toArray⟩
  | [], s => by simp
  | n :: ns, s => by
    simp only [List.foldl_cons]
    rw [push_bytes ns]
    simp [ByteArray.push]
theorem flat_leaf : ∀ {es : List D}, (∀ e ∈ es, dcells e = [e]) → flat es = es
  | [], _ => rfl
  | e :: es, h => by
    have := flat_leaf (es := es) fun x hx => h x (by simp [hx])
    simp only [flat, List.flatMap_cons] at this ⊢
    rw [this, h e (by simp)]
    rfl
theorem run_conv {src dst : TypeId} {x d : D} {vx : Value} (hlt : Lt F w) (hx : Den c ν F w vx x) (h : dconv P src dst x = some d) :
    ∃ v w' F', (convert src dst vx).run P w = .ok v w' ∧ Ext (fun _ => False) F w F' w' ∧ Lt F' w' ∧ (∀ b o, F' b o → F b o ∨ w.heap.size ≤ b) ∧ Den0 F' w' v d := by
  unfold dconv at h
  split at h
  · rename_i u k k' n hs hd
    injection h with h
    subst h
    rw [hx.int_]
    exact ⟨_, w, F, by simp [convert, run_underlying hs, run_underlying hd, Conv.intToInt], Ext.refl _ _ _, hlt, fun b o h => .inl h, .int _ _⟩
  · rename_i u l hs hd
    injection h with h
    subst h
    rw [hx.str_]
    refine ⟨_, w, F, ?_, Ext.refl _ _ _, hlt, fun b o h => .inl h, .str _⟩
    simp [convert, run_underlying hs, run_underlying hd]
  · rename_i e es hs hd
    split at h
    · rename_i he
      obtain ⟨l, hl, rfl⟩ := Option.map_eq_some_iff.1 h
      obtain ⟨ns, rfl, rfl⟩ := bytesOf_spec hl
      have hx' := hx.list_
      cases hx' with
      | list a n cp s _ vs h1 h2 h3 h4 h5 h6 h7 =>
        refine ⟨.string ⟨(ns.map fun n => UInt8.ofNat n.toNat).toArray⟩, w, F, ?_, Ext.refl _ _ _, hlt, fun b o h => .inl h, .str _⟩
        rw [run_convert_bytes_string w src dst e a n cp hs he hd]
        by_cases h0 : ns = []
        · subst h0
          simp at h1
          subst h1
          cases a with
          | none => rfl
          | some a =>
            exact run_bytesToString (P := P) w a 0 cp [] (by simp [loadCells, loadCellsFrom])
        · have hfl : flat (ns.map (D.int .u8)) = ns.map (D.int .u8) := flat_leaf (by simp [dcells])
          have hs1 : s = 1 := by
            cases ns with
            | nil => exact absurd rfl h0
            | cons z zs => rw [← h4 (.int .u8 z) (by simp)]; rfl
          subst hs1
          have hvs : vs = ns.map (Value.int .u8) := by
            apply List.ext_getElem?
            intro i
            by_cases hi : i < vs.length
            · have e1 : vs[i]? = some vs[i] := List.getElem?_eq_getElem hi
              have hin : i < ns.length := by
                have : ns.length = n := by simpa using h1
                omega
              have e2 : (flat (ns.map (D.int .u8)))[i]? = some (.int .u8 ns[i]) := by
                rw [hfl]
                simp [hin]
              have := h7 i _ _ e1 e2
              rw [e1]
              cases hv : vs[i] with
              | int k z =>
                rw [hv] at this
                cases this
                simp [hin]
              | _ => rw [hv] at this; cases this
            · rw [List.getElem?_eq_none (by omega), List.getElem?_eq_none (by simp at h1 ⊢; omega)]
          subst hvs
          have hnn : ns.length = n := by simpa using h1
          obtain ⟨b, off, rfl, hc⟩ := h6.resolve_left (by simpa using h0)
          have hload := run_loadCells_list (P := P) (w := w) ⟨b, off, none⟩ (ns.map (Value.int .u8)) (cells_add hc)
          rw [List.length_map, hnn] at hload
          rw [run_bytesToString (P := P) w ⟨b, off, none⟩ n cp ns hload, push_bytes]
          simp
    · cases h
  · rename_i u e l hs hd
    split at h
    · rename_i he
      injection h with h
      subst h
      rw [hx.str_]
      have hsize : (⟨l.toArray⟩ : ByteArray).size = l.length := by simp [ByteArray.size]
      refine ⟨_, _, fixing F w.heap.size l.length, Lib.run_convert_string_bytes w src dst e ⟨l.toArray⟩ hs hd he, ?_, ?_, ?_, ?_⟩
      · refine ⟨rfl, rfl, rfl, by rw [Lib.bytesWorld_size]; omega, fun b hb _ => Lib.bytesWorld_at_old w e _ b hb, fun b o h => .inl h, fun b o h => ?_, fun b es ck h hm => (Lib.bytesWorld_at_old w e _ b (hlt b 0 h)).trans hm⟩
        exact Lib.bytesWorld_old w e _ ⟨b, o, none⟩ (hlt b o h)
      · rintro b o (h | ⟨rfl, _⟩)
        · have := hlt b o h
          rw [Lib.bytesWorld_size]
          omega
        · rw [Lib.bytesWorld_size]
          omega
      · rintro b o (h | ⟨rfl, _⟩)
        · exact .inl h
        · exact .inr (Nat.le_refl _)
      · rw [hsize]
        have hfl : flat (l.map fun b => D.int .u8 b.toNat) = l.map fun b => D.int .u8 b.toNat := flat_leaf (by simp [dcells])
        refine .list _ l.length _ 1 _ (l.map fun b => Value.int .u8 b.toNat) (by simp) (by have := grownCap_ge w l.length 0 e; exact this) (by decide) (by simp [dcells]) (by simp) (.inr ⟨w.heap.size, 0, rfl, ?_⟩) ?_
        · intro i v hv
          have hi : i < l.length := by
            have := (List.getElem?_eq_some_iff.1 hv).1
            simpa using this
          rw [List.getElem?_map, List.getElem?_eq_getElem hi] at hv
          simp at hv
          subst hv
          refine ⟨.inr ⟨rfl, by omega⟩, ?_, rfl⟩
          rw [Nat.zero_add, Lib.bytesWorld_cell w e _ i (by rw [hsize]; exact hi)]
          simp [hi]
        · intro i v x hv hx
          rw [hfl] at hx
          rw [List.getElem?_map] at hv hx
          cases hl : l[i]? with
          | none => rw [hl] at hv; cases hv
          | some b =>
            rw [hl] at hv hx
            simp at hv hx
            subst hv hx
            exact .int _ _
    · cases h
  · cases h
end
end Go.Av
namespace Go.Av
open Go.RowKit
variable [Gs]

def comp : Value → Nat → Option Value
  | .tuple vs, i => vs[i]?
  | .agg vs, i => vs[i]?
  | v, 0 => some v
  | _, _ => none
def dcomp : D → Nat → Option D
  | .tuple cs, i => cs[i]?
  | .agg cs, i => cs[i]?
  | d, 0 => some d
  | _, _ => none
def RoomAt (P : Program) (F : Nat → Nat → Prop) (w : World) (v : Option Value) (d : Option D) : Option Room → Option Nat → Prop
  | some (.own e), cl => ∃ u es, v = some u ∧ d = some (.list es) ∧ Own P F w e u es.length cl
  | some .full, cl => cl = none ∧ ∃ es a, v = some (.slice a es.length es.length) ∧ d = some (.list es)
  | some .fresh, cl => ∃ g es C e, cl = some g ∧ v = some (.slice (some ⟨g, 0, none⟩) es.length es.length) ∧ d = some (.list es) ∧ w.heap[g]? = some (.cells C e (0, 0))
  | _, cl => cl = none
def RoomsOK (P : Program) (F : Nat → Nat → Prop) (w : World) (v : Value) (d : D) (r : List Room) (cls : Nat → Option Nat) : Prop :=
  ∀ i, RoomAt P F w (comp v i) (dcomp d i) r[i]? (cls i)
def BoxAt (F : Nat → Nat → Prop) (w : World) (g : Nat) (cells : List D) : Prop :=
  ∃ (vs : List Value) (t : TypeId) (rest : List Value) (fr : Nat × Nat), (w.heap[g]? = some (.cells (vs ++ rest).toArray t fr) ∧ (fr = (0, 0) ∨ (vs ++ rest).length ≤ fr.1)) ∧ vs.length = cells.length ∧ (∀ v ∈ vs, v.oneCell' = true) ∧
    (∀ (i : Nat) (v : Value) (x : D), vs[i]? = some v → cells[i]? = some x → Den0 F w v x) ∧ ∀ o, ¬ F g o

inductive Cl where
  | sl (j : Nat)
  | bx (k : Nat)
  deriving DecidableEq
structure Mu where
  bl : Nat → Nat
  cl : Nat → Nat → Option Nat
def BRooms (P : Program) (F : Nat → Nat → Prop) (w : World) (g : Nat) (cells : List D) (rooms : List Room) (cl : Nat → Option Nat) : Prop :=
  ∀ i, RoomAt P F w (w.cell? ⟨g, i, none⟩) cells[i]? rooms[i]? (cl i)
structure Gv where
  m : Nat
  μ : Mu
def Gv.B (g : Gv) (b : Nat) : Prop := ∃ i, i < g.m ∧ g.μ.bl i = b
def Gv.C (g : Gv) (b : Nat) : Prop := ∃ i o, i < g.m ∧ g.μ.cl i o = some b
def Gv.S (g : Gv) (b : Nat) : Prop := g.B b ∨ g.C b

structure Inv (P : Program) (n : Nat) (S0 : Gv) (F0 : Nat → Nat → Prop) (w0 : World) (ν : Nat → Nat → Nat) (F : Nat → Nat → Prop) (cls : Cl → Nat → Option Nat) (s : St) (a : Act) (w : World) : Prop where
  ext : Ext S0.S F0 w0 F w
  lt : Lt F w
  news : ∀ b o, F b o → F0 b o ∨ w0.heap.size ≤ b ∨ S0.C b
  size : a.tmps.size = n
  defers : a.defers = []
  slots : ∀ j, Den s.ctr ν F w (a.tmps.getD j undef) (s.slot j)
  rooms : ∀ j, RoomsOK P F w (a.tmps.getD j undef) (s.slot j) (s.room j) (cls (.sl j))
  inj : ∀ j i j' i' g, cls j i = some g → cls j' i' = some g → j = j' ∧ i = i'
  sep : ∀ j i g k bx, cls j i = some g → s.box k = some bx → ν k bx.gen ≠ g
  loc : ∀ j i g, cls j i = some g → g < w.heap.size ∧ (w0.heap.size ≤ g ∨ S0.C g)
  boxes : ∀ k bx, s.box k = some bx → BoxAt F w (ν k bx.gen) bx.cells ∧ bx.gen < s.ctr k ∧ (S0.B (ν k bx.gen) ∨ w0.heap.size ≤ ν k bx.gen)
  brooms : ∀ k bx, s.box k = some bx → BRooms P F w (ν k bx.gen) bx.cells bx.rooms (cls (.bx k))
  binj : ∀ k bx k' bx', s.box k = some bx → s.box k' = some bx' → ν k bx.gen = ν k' bx'.gen → k = k'
  given : ∀ i, i < S0.m → ∃ bx, s.box (pid i) = some bx ∧ bx.gen = 0 ∧ ν (pid i) 0 = S0.μ.bl i
  gok : GOK F w

section
variable {P : Program} {T : Nat → Prop} {F F' : Nat → Nat → Prop} {w w' : World}

theorem lt_of_heap {g : Nat} {o : Obj} (h : w.heap[g]? = some o) : g < w.heap.size := by
  apply Classical.byContradiction
  intro hn
  rw [Array.getElem?_eq_none (by omega)] at h
  cases h
theorem Own.ext {e : TypeId} {v : Value} {n : Nat} {cl : Option Nat} (h : Own P F w e v n cl) (hE : Ext T F w F' w') (hnew : ∀ b o, F' b o → F b o ∨ w.heap.size ≤ b ∨ T b) (hT : ∀ g, cl = some g → ¬ T g) : Own P F' w' e v n cl := by
  cases cl with
  | none => exact h
  | some g =>
    obtain ⟨cap, cur, i, h1, h2, h3, h4, h5, h6⟩ := h
    have hg := lt_of_heap h2
    refine ⟨cap, cur, i, h1, (hE.block g hg (hT g rfl)).trans h2, h3, h4, h5, fun o ho hF => ?_⟩
    rcases hnew g o hF with h | h | h
    · exact h6 o ho h
    · omega
    · exact hT g rfl h
theorem RoomAt.ext {v : Option Value} {d : Option D} {r : Option Room} {cl : Option Nat} (h : RoomAt P F w v d r cl) (hE : Ext T F w F' w') (hnew : ∀ b o, F' b o → F b o ∨ w.heap.size ≤ b ∨ T b) (hT : ∀ g, cl = some g → ¬ T g) : RoomAt P F' w' v d r cl := by
  match r, h with
  | none, h => exact h
  | some .no, h => exact h
  | some .full, h => exact h
  | some .fresh, ⟨g, es, C, e, h1, h2, h3, h4⟩ => exact ⟨g, es, C, e, h1, h2, h3, (hE.block g (lt_of_heap h4) (hT g h1)).trans h4⟩
  | some (.own e), ⟨u, es, h1, h2, h3⟩ => exact ⟨u, es, h1, h2, h3.ext hE hnew hT⟩
theorem BoxAt.ext {g : Nat} {cells : List D} (h : BoxAt F w g cells) (hE : Ext T F w F' w') (hnew : ∀ b o, F' b o → F b o ∨ w.heap.size ≤ b ∨ T b) (hT : ¬ T g) : BoxAt F' w' g cells := by
  obtain ⟨vs, t, rest, fr, ⟨h1, h0⟩, h2, h3, h4, h5⟩ := h
  have hg := lt_of_heap h1
  refine ⟨vs, t, rest, fr, ⟨(hE.block g hg hT).trans h1, h0⟩, h2, h3, fun i v x hv hx => (h4 i v x hv hx).ext hE, fun o hF => ?_⟩
  rcases hnew g o hF with h | h | h
  · exact h5 o h
  · omega
  · exact hT h
theorem BRooms.ext {g : Nat} {cells : List D} {rooms : List Room} {cl : Nat → Option Nat} (h : BRooms P F w g cells rooms cl) (hE : Ext T F w F' w') (hg : g < w.heap.size) (hnew : ∀ b o, F' b o → F b o ∨ w.heap.size ≤ b ∨ T b) (hT : ∀ i g, cl i = some g → ¬ T g) (hTg : ¬ T g) : BRooms P F' w' g cells rooms cl := fun i => by
  have e : w'.cell? ⟨g, i, none⟩ = w.cell? ⟨g, i, none⟩ := World.cell?_of_block (a := ⟨g, i, none⟩) (hE.block g hg hTg)
  rw [e]
  exact (h i).ext hE hnew (fun g' hg' => hT i g' hg')
theorem BRooms.nil {g : Nat} {cells : List D} : BRooms P F w g cells [] (fun _ => none) := fun i => by simp [RoomAt]
theorem RoomAt.none_ {v : Option Value} {d : Option D} : RoomAt P F w v d none none := rfl
theorem rooms_nil {v : Value} {d : D} : RoomsOK P F w v d [] (fun _ => none) := fun i => by simp [RoomAt]
end

def unclaim (cls : Cl → Nat → Option Nat) : Option (Tmp × Option Nat) → Cl → Nat → Option Nat
  | none, j, i => cls j i
  | some (t, none), j, i => if j = .sl t then none else cls j i
  | some (t, some k), j, i => if j = .sl t ∧ i = k then none else cls j i
def took (cls : Cl → Nat → Option Nat) : Option (Tmp × Option Nat) → Nat → Prop
  | none, _ => False
  | some (t, none), g => ∃ i, cls (.sl t) i = some g
  | some (t, some i), g => cls (.sl t) i = some g

section
variable {P : Program} {n : Nat} {S0 : Gv} {F0 : Nat → Nat → Prop} {w0 : World} {ν : Nat → Nat → Nat} {F : Nat → Nat → Prop} {cls : Cl → Nat → Option Nat} {s : St} {a : Act} {w : World}

theorem unclaim_some {tk : Option (Tmp × Option Nat)} {j : Cl} {i g : Nat} (h : unclaim cls tk j i = some g) : cls j i = some g := by
  unfold unclaim at h
  split at h
  · exact h
  · split at h
    · cases h
    · exact h
  · split at h
    · cases h
    · exact h
theorem unclaim_bx (tk : Option (Tmp × Option Nat)) (k : Nat) : unclaim cls tk (.bx k) = cls (.bx k) := by
  funext i
  unfold unclaim
  split
  · rfl
  · rw [if_neg (by simp)]
  · rw [if_neg (by simp)]
theorem unclaim_took (hinj : ∀ j i j' i' g, cls j i = some g → cls j' i' = some g → j = j' ∧ i = i') {tk : Option (Tmp × Option Nat)} {j : Cl} {i g : Nat} (h : unclaim cls tk j i = some g) : ¬ took cls tk g := by
  have h0 := unclaim_some h
  intro ht
  match tk, h, ht with
  | none, _, ht => exact ht
  | some (t, none), h, ⟨i', ht⟩ =>
    obtain ⟨rfl, _⟩ := hinj _ _ _ _ _ h0 ht
    simp [unclaim] at h
  | some (t, some k), h, ht =>
    obtain ⟨rfl, rfl⟩ := hinj _ _ _ _ _ h0 ht
    simp [unclaim] at h
theorem getElem?_set_no {r : List Room} {k i : Nat} (h : i ≠ k) : (r.set k .no)[i]? = r[i]? := by
  rw [List.getElem?_set_ne (Ne.symm h)]
theorem demote_slot (tk : Option (Tmp × Option Nat)) : (s.demote tk).slot = s.slot := by unfold St.demote; split <;> rfl
theorem demote_box (tk : Option (Tmp × Option Nat)) : (s.demote tk).box = s.box := by unfold St.demote; split <;> rfl
theorem demote_ctr (tk : Option (Tmp × Option Nat)) : (s.demote tk).ctr = s.ctr := by unfold St.demote; split <;> rfl
theorem Inv.demote (h : Inv P n S0 F0 w0 ν F cls s a w) (tk : Option (Tmp × Option Nat)) : Inv P n S0 F0 w0 ν F (unclaim cls tk) (s.demote tk) a w := by
  have e1 := demote_slot (s := s) tk
  have e2 := demote_box (s := s) tk
  have e3 := demote_ctr (s := s) tk
  refine ⟨h.ext, h.lt, h.news, h.size, h.defers, ?_, ?_, fun j i j' i' g h1 h2 => h.inj j i j' i' g (unclaim_some h1) (unclaim_some h2), ?_, fun j i g h1 => h.loc j i g (unclaim_some h1), ?_, ?_, ?_, ?_, h.gok⟩
  · rw [e1, e3]; exact h.slots
  · rw [e1]
    intro j i
    have := h.rooms j i
    match tk with
    | none => exact this
    | some (t, none) =>
      simp only [St.demote, unclaim, upd]
      by_cases hj : j = t
      · simp [hj, RoomAt]
      · simpa [hj] using this
    | some (t, some k) =>
      simp only [St.demote, unclaim, upd]
      by_cases hj : j = t
      · subst hj
        by_cases hi : i = k
        · subst hi
          simp only [if_true, and_self]
          by_cases hl : i < (s.room j).length
          · rw [List.getElem?_set_self hl]; rfl
          · rw [List.getElem?_eq_none (by simp; omega)]; rfl
        · simp only [if_true, hi, and_false, if_false]
          rw [getElem?_set_no hi]
          exact this
      · simpa [hj] using this
  · rw [e2]; exact fun j i g k bx h1 h2 => h.sep j i g k bx (unclaim_some h1) h2
  · rw [e2, e3]; exact h.boxes
  · rw [e2]; exact fun k bx hb => by rw [unclaim_bx]; exact h.brooms k bx hb
  · rw [e2]; exact h.binj
  · rw [e2]; exact h.given
theorem getD_put (a : Act) (k : Nat) (v : Value) (hk : k < a.tmps.size) (j : Nat) : (a.put (some k) v).tmps.getD j undef = if j = k then v else a.tmps.getD j undef := by
  simp only [Act.put, Array.getD_eq_getD_getElem?]
  by_cases h : j = k
  · subst h; simp [hk]
  · rw [if_neg h, Array.getElem?_setIfInBounds_ne (Ne.symm h)]
theorem box_lt (hI : Inv P n S0 F0 w0 ν F cls s a w) {k : Nat} {bx : Bx} (hb : s.box k = some bx) : ν k bx.gen < w.heap.size := by
  obtain ⟨⟨vs, t, _, _, ⟨h1, _⟩, _⟩, _⟩ := hI.boxes k bx hb
  exact lt_of_heap h1
theorem Inv.put (h : Inv P n S0 F0 w0 ν F cls s a w) {T : Nat → Prop} {F' : Nat → Nat → Prop} {w' : World} {dst : Option Tmp} {v : Value} {d : D} {r : List Room} {ncl : Nat → Option Nat}
    (hd : ∀ k, dst = some k → k < n) (hE : Ext T F w F' w') (hlt : Lt F' w') (hnew : ∀ b o, F' b o → F b o ∨ w.heap.size ≤ b ∨ T b) (hv : Den s.ctr ν F' w' v d) (hr : RoomsOK P F' w' v d r ncl)
    (hT0 : ∀ b, T b → w0.heap.size ≤ b ∨ S0.C b) (hTc : ∀ j i g, cls j i = some g → ¬ T g) (hTb : ∀ k bx, s.box k = some bx → ¬ T (ν k bx.gen))
    (hn : ∀ i g, ncl i = some g → g < w'.heap.size ∧ (w0.heap.size ≤ g ∨ S0.C g) ∧ (∀ j i, cls j i ≠ some g) ∧ ∀ k bx, s.box k = some bx → ν k bx.gen ≠ g) (hni : ∀ i i' g, ncl i = some g → ncl i' = some g → i = i') :
    ∃ cls', Inv P n S0 F0 w0 ν F' cls' (s.put dst d r) (a.put dst v) w' := by
  have hw0 : w0.heap.size ≤ w.heap.size := h.ext.size
  have hext : Ext S0.S F0 w0 F' w' := h.ext.late hE fun b hb => (hT0 b hb).elim .inr fun h => .inl (.inr h)
  have hnews : ∀ b o, F' b o → F0 b o ∨ w0.heap.size ≤ b ∨ S0.C b := fun b o hF => by
    rcases hnew b o hF with h1 | h1 | h1
    · exact h.news b o h1
    · exact .inr (.inl (by omega))
    · exact .inr (hT0 b h1)
  have hbox : ∀ k bx, s.box k = some bx → BoxAt F' w' (ν k bx.gen) bx.cells ∧ bx.gen < s.ctr k ∧ (S0.B (ν k bx.gen) ∨ w0.heap.size ≤ ν k bx.gen) := fun k bx hb => by
    obtain ⟨h1, h2, h3⟩ := h.boxes k bx hb
    exact ⟨h1.ext hE hnew (hTb k bx hb), h2, h3⟩
  have hbr : ∀ k bx, s.box k = some bx → BRooms P F' w' (ν k bx.gen) bx.cells bx.rooms (cls (.bx k)) := fun k bx hb => (h.brooms k bx hb).ext hE (box_lt h hb) hnew (fun i g hg => hTc _ i g hg) (hTb k bx hb)
  cases dst with
  | none =>
    refine ⟨cls, hext, hlt, hnews, h.size, h.defers, fun j => (h.slots j).ext hE, fun j i => (h.rooms j i).ext hE hnew (fun g hg => hTc _ i g hg), h.inj, h.sep, fun j i g hg => ?_, hbox, hbr, h.binj, h.given, h.gok.ext hE⟩
    obtain ⟨h1, h2⟩ := h.loc j i g hg
    exact ⟨Nat.lt_of_lt_of_le h1 hE.size, h2⟩
  | some k =>
    have hk : k < a.tmps.size := by rw [h.size]; exact hd k rfl
    have old : ∀ j i g, cls j i = some g → g < w.heap.size ∧ (w0.heap.size ≤ g ∨ S0.C g) ∧ ¬ T g := fun j i g hg => ⟨(h.loc j i g hg).1, (h.loc j i g hg).2, hTc j i g hg⟩
    refine ⟨fun j i => if j = .sl k then ncl i else cls j i, hext, hlt, hnews, by simp [Act.put, h.size], h.defers, ?_, ?_, ?_, ?_, ?_, hbox, fun k' bx hb => ?_, h.binj, h.given, h.gok.ext hE⟩
    · intro j
      rw [getD_put a k v hk j]
      simp only [St.put, upd]
      by_cases hj : j = k
      · rw [if_pos hj, if_pos hj]; exact hv
      · rw [if_neg hj, if_neg hj]; exact (h.slots j).ext hE
    · intro j i
      rw [getD_put a k v hk j]
      simp only [St.put, upd]
      by_cases hj : j = k
      · simp only [hj, if_true]; exact hr i
      · simp only [if_neg hj, Cl.sl.injEq]; exact (h.rooms j i).ext hE hnew (fun g hg => hTc _ i g hg)
    · intro j i j' i' g h1 h2
      by_cases hj : j = .sl k <;> by_cases hj' : j' = .sl k
      · simp only [if_pos hj] at h1
        simp only [if_pos hj'] at h2
        exact ⟨by rw [hj, hj'], hni i i' g h1 h2⟩
      · simp only [if_pos hj] at h1
        simp only [if_neg hj'] at h2
        exact absurd h2 ((hn i g h1).2.2.1 j' i')
      · simp only [if_neg hj] at h1
        simp only [if_pos hj'] at h2
        exact absurd h1 ((hn i' g h2).2.2.1 j i)
      · simp only [if_neg hj] at h1
        simp only [if_neg hj'] at h2
        exact h.inj j i j' i' g h1 h2
    · intro j i g k' bx h1 h2
      by_cases hj : j = .sl k
      · simp only [if_pos hj] at h1
        exact (hn i g h1).2.2.2 k' bx h2
      · simp only [if_neg hj] at h1
        exact h.sep j i g k' bx h1 h2
    · intro j i g h1
      by_cases hj : j = .sl k
      · simp only [if_pos hj] at h1
        exact ⟨(hn i g h1).1, (hn i g h1).2.1⟩
      · simp only [if_neg hj] at h1
        exact ⟨Nat.lt_of_lt_of_le (old j i g h1).1 hE.size, (old j i g h1).2.1⟩
    · have := hbr k' bx hb
      simpa using this
theorem Inv.clear (h : Inv P n S0 F0 w0 ν F cls s a w) {k : Nat} {bx : Bx} (hb : s.box k = some bx) (off : Nat) :
    Inv P n S0 F0 w0 ν F (fun j i => if j = .bx k ∧ i = off then none else cls j i) (s.setBox k (some ⟨bx.gen, bx.cells, bx.rooms.set off .no⟩)) a w := by
  have hsome : ∀ {j i g}, (if j = .bx k ∧ i = off then none else cls j i) = some g → cls j i = some g := by
    intro j i g hg
    split at hg
    · cases hg
    · exact hg
  have hbox : ∀ k' b', upd s.box k (some ⟨bx.gen, bx.cells, bx.rooms.set off .no⟩) k' = some b' → ∃ b0, s.box k' = some b0 ∧ b0.gen = b'.gen ∧ b0.cells = b'.cells ∧ ((k' = k ∧ b0 = bx ∧ b'.rooms = bx.rooms.set off .no) ∨ (k' ≠ k ∧ b0 = b')) := by
    intro k' b' h'
    simp only [upd] at h'
    by_cases hk : k' = k
    · rw [if_pos hk] at h'
      injection h' with h'
      subst h'
      exact ⟨bx, by rw [hk]; exact hb, rfl, rfl, .inl ⟨hk, rfl, rfl⟩⟩
    · rw [if_neg hk] at h'
      exact ⟨b', h', rfl, rfl, .inr ⟨hk, rfl⟩⟩
  refine ⟨h.ext, h.lt, h.news, h.size, h.defers, h.slots, fun j i => ?_, fun j i j' i' g h1 h2 => h.inj j i j' i' g (hsome h1) (hsome h2), fun j i g k' b' h1 h2 => ?_, fun j i g h1 => h.loc j i g (hsome h1), fun k' b' h2 => ?_, fun k' b' h2 => ?_, fun k1 b1 k2 b2 h1 h2 he => ?_, fun i hi => ?_, h.gok⟩
  · have := h.rooms j i
    rw [if_neg (by simp)]
    exact this
  · obtain ⟨b0, e1, e2, _⟩ := hbox k' b' h2
    rw [← e2]
    exact h.sep j i g k' b0 (hsome h1) e1
  · obtain ⟨b0, e1, e2, e3, _⟩ := hbox k' b' h2
    rw [← e2, ← e3]
    exact h.boxes k' b0 e1
  · obtain ⟨b0, e1, e2, e3, e4⟩ := hbox k' b' h2
    rw [← e2, ← e3]
    intro i
    have hr := h.brooms k' b0 e1 i
    rcases e4 with ⟨rfl, rfl, e4⟩ | ⟨hk, rfl⟩
    · rw [e4]
      by_cases hi : i = off
      · subst hi
        simp only [and_self, if_true]
        by_cases hl : i < b0.rooms.length
        · rw [List.getElem?_set_self hl]; rfl
        · rw [List.getElem?_eq_none (l := b0.rooms.set i .no) (by simp; omega)]; rfl
      · rw [getElem?_set_no hi]
        simpa [hi] using hr
    · simpa [hk] using hr
  · obtain ⟨c1, e1, e2, _⟩ := hbox k1 b1 h1
    obtain ⟨c2, e3, e4, _⟩ := hbox k2 b2 h2
    exact h.binj k1 c1 k2 c2 e1 e3 (by rw [e2, e4]; exact he)
  · obtain ⟨b0, h1, h2, h3⟩ := h.given i hi
    by_cases hk : pid i = k
    · subst hk
      rw [hb] at h1
      injection h1 with h1
      subst h1
      exact ⟨_, if_pos rfl, h2, h3⟩
    · exact ⟨b0, by simp only [St.setBox, upd, if_neg hk]; exact h1, h2, h3⟩
end
end Go.Av
namespace Go.Av
open Go.RowKit
variable [Gs]

structure Fine (P : Program) : Prop where
  mixed : P.follows .mixedOrders = true
  names : ∀ (f : FuncId) (fn : Func), P.funcs[f]? = some fn → (fn.name == "runtime.NumGoroutine") = false

def argNu (μ : Mu) : Nat → Nat → Nat := fun k _ => μ.bl (k - 1000000)
def Ret (P : Program) (m : Nat) (μ : Mu) (F : Nat → Nat → Prop) (w : World) (d : D) (r : List Room) (pbs' : List Bx) (e : Ending) (w' : World) : Prop :=
  ∃ (v : Value) (F' : Nat → Nat → Prop) (nc : Cl → Nat → Option Nat), e = .returned v ∧ Ext (Gv.mk m μ).S F w F' w' ∧ Lt F' w' ∧ (∀ b o, F' b o → F b o ∨ w.heap.size ≤ b ∨ (Gv.mk m μ).C b) ∧
    ((pbs'.length = m ∧ (∀ c ν, Den c ν F' w' v d) ∧ RoomsOK P F' w' v d r (nc (.sl 0))) ∨
      (pbs'.length = m + 1 ∧ ∃ g, v = .pointer (some ⟨g, 0, none⟩) ∧ w.heap.size ≤ g ∧ g < w'.heap.size ∧ (∀ bx, pbs'[m]? = some bx → BoxAt F' w' g bx.cells ∧ BRooms P F' w' g bx.cells bx.rooms (nc (.bx m))) ∧ ∀ j i g', nc j i = some g' → g ≠ g')) ∧
    (∀ j i g, nc j i = some g → g < w'.heap.size ∧ (w.heap.size ≤ g ∨ (Gv.mk m μ).C g) ∧ ¬ (Gv.mk m μ).B g) ∧ (∀ j i j' i' g, nc j i = some g → nc j' i' = some g → j = j' ∧ i = i') ∧
    ∀ i bx, i < m → pbs'[i]? = some bx → BoxAt F' w' (μ.bl i) bx.cells ∧ BRooms P F' w' (μ.bl i) bx.cells bx.rooms (nc (.bx i))
def GivenOK (w : World) (m : Nat) (μ : Mu) : Prop :=
  (∀ i j, i < m → j < m → μ.bl i = μ.bl j → i = j) ∧ (∀ i o i' o' g, μ.cl i o = some g → μ.cl i' o' = some g → i = i' ∧ o = o') ∧ ∀ i o g, μ.cl i o = some g → i < m ∧ g < w.heap.size ∧ ∀ j, j < m → μ.bl j ≠ g
def mu0 : Mu := ⟨fun _ => 0, fun _ _ => none⟩
theorem given0 (w : World) : GivenOK w 0 mu0 := by
  refine ⟨fun i j hi => absurd hi (Nat.not_lt_zero i), fun i o i' o' g h => ?_, fun i o g h => ?_⟩ <;> cases h
theorem S_zero (μ : Mu) (b : Nat) : ¬ (Gv.mk 0 μ).S b := by
  rintro (⟨i, hi, _⟩ | ⟨i, o, hi, _⟩) <;> exact absurd hi (Nat.not_lt_zero i)
theorem C_zero (μ : Mu) (b : Nat) : ¬ (Gv.mk 0 μ).C b := fun h => S_zero μ b (.inr h)
def CallOK (P : Program) (call : Call) : Prop :=
  ∀ (f : FuncId) (args : List D) (pbs : List Bx) (d : D) (r : List Room) (pbs' : List Bx), call f args pbs = some (d, r, pbs') →
    (∃ fn, P.funcs[f]? = some fn ∧ fn.body.isSome = true) ∧
    ∀ (vals : List Value) (w : World) (F : Nat → Nat → Prop) (μ : Mu), vals.length = args.length → (∀ (i : Nat) (v : Value) (x : D), vals[i]? = some v → args[i]? = some x → Den (fun _ => 1) (argNu μ) F w v x) →
      (∀ i bx, pbs[i]? = some bx → BoxAt F w (μ.bl i) bx.cells ∧ bx.gen = 0 ∧ BRooms P F w (μ.bl i) bx.cells bx.rooms (μ.cl i)) → GivenOK w pbs.length μ → Lt F w → GOK F w →
      Calls P f vals.toArray w (Ret P pbs.length μ F w d r pbs')

section
variable {P : Program} {n : Nat} {S0 : Gv} {F0 : Nat → Nat → Prop} {w0 : World} {ν : Nat → Nat → Nat} {F : Nat → Nat → Prop} {cls : Cl → Nat → Option Nat} {s : St} {a : Act} {w : World}
variable {K : Act → World → Prop} {Q : Exit → Act → World → Prop} {o : Oper}

theorem took_loc {tk : Option (Tmp × Option Nat)} {g : Nat} (h : took cls tk g) : ∃ j i, cls j i = some g := by
  match tk, h with
  | some (t, none), ⟨i, h⟩ => exact ⟨.sl t, i, h⟩
  | some (t, some i), h => exact ⟨.sl t, i, h⟩
theorem inv_value (hI : Inv P n S0 F0 w0 ν F cls s a w) {tk : Option (Tmp × Option Nat)} {F' : Nat → Nat → Prop} {w' : World} {dst : Option Tmp} {v : Value} {d : D} {r : List Room} {ncl : Nat → Option Nat} (hin : ∀ k, dst = some k → k < n)
    (hE : Ext (took cls tk) F w F' w') (hlt : Lt F' w') (hnew : ∀ b o, F' b o → F b o ∨ w.heap.size ≤ b ∨ took cls tk b) (hv : Den s.ctr ν F' w' v d) (hr : RoomsOK P F' w' v d r ncl)
    (hn : ∀ i g, ncl i = some g → g < w'.heap.size ∧ (w.heap.size ≤ g ∨ took cls tk g)) (hni : ∀ i i' g, ncl i = some g → ncl i' = some g → i = i') :
    ∃ cls', Inv P n S0 F0 w0 ν F' cls' ((s.demote tk).put dst d r) (a.put dst v) w' := by
  have hD := hI.demote tk
  have e3 : (s.demote tk).ctr = s.ctr := by unfold St.demote; split <;> rfl
  have e2 : (s.demote tk).box = s.box := by unfold St.demote; split <;> rfl
  refine hD.put hin hE hlt hnew (by rw [e3]; exact hv) hr ?_ ?_ ?_ (fun i g hg => ?_) hni
  · intro b hb
    obtain ⟨j, i, h⟩ := took_loc hb
    exact (hI.loc j i b h).2
  · intro j i g h1 h2
    exact unclaim_took hI.inj h1 h2
  · intro k bx h1 h2
    rw [e2] at h1
    obtain ⟨j, i, h⟩ := took_loc h2
    exact hI.sep j i _ k bx h h1 rfl
  · obtain ⟨h1, h2⟩ := hn i g hg
    refine ⟨h1, ?_, fun j' i' h3 => ?_, fun k bx h3 h4 => ?_⟩
    · rcases h2 with h2 | h2
      · exact .inl (Nat.le_trans hI.ext.size h2)
      · obtain ⟨j', i', h⟩ := took_loc h2
        exact (hI.loc _ _ _ h).2
    · rcases h2 with h2 | h2
      · have := (hI.loc _ _ _ (unclaim_some h3)).1
        omega
      · exact unclaim_took hI.inj h3 h2
    · rw [e2] at h3
      rcases h2 with h2 | h2
      · obtain ⟨⟨vs, t, _, _, ⟨h5, _⟩, _⟩, _⟩ := hI.boxes k bx h3
        have := lt_of_heap h5
        omega
      · obtain ⟨j', i', h⟩ := took_loc h2
        exact hI.sep _ _ _ k bx h h3 h4
theorem wp_value (hI : Inv P n S0 F0 w0 ν F cls s a w) {tk : Option (Tmp × Option Nat)} {F' : Nat → Nat → Prop} {w' : World} {v : Value} {d : D} {r : List Room} {ncl : Nat → Option Nat} (hin : ∀ k, o.dst = some k → k < n)
    (hrun : (execOp a.eval o).run P w = .ok (.value v) w')
    (hE : Ext (took cls tk) F w F' w') (hlt : Lt F' w') (hnew : ∀ b o, F' b o → F b o ∨ w.heap.size ≤ b ∨ took cls tk b) (hv : Den s.ctr ν F' w' v d) (hr : RoomsOK P F' w' v d r ncl)
    (hn : ∀ i g, ncl i = some g → g < w'.heap.size ∧ (w.heap.size ≤ g ∨ took cls tk g)) (hni : ∀ i i' g, ncl i = some g → ncl i' = some g → i = i')
    (hK : ∀ a' w', (∃ F' cls', Inv P n S0 F0 w0 ν F' cls' ((s.demote tk).put o.dst d r) a' w') → K a' w') : o.wp P a w K Q := by
  unfold Oper.wp
  rw [hrun, Oper.upon_value]
  exact hK _ _ ⟨F', inv_value hI hin hE hlt hnew hv hr hn hni⟩
theorem wp_same (hI : Inv P n S0 F0 w0 ν F cls s a w) {tk : Option (Tmp × Option Nat)} {v : Value} {d : D} (hin : ∀ k, o.dst = some k → k < n) (hrun : (execOp a.eval o).run P w = .ok (.value v) w) (hv : Den s.ctr ν F w v d)
    (hK : ∀ a' w', (∃ F' cls', Inv P n S0 F0 w0 ν F' cls' ((s.demote tk).put o.dst d []) a' w') → K a' w') : o.wp P a w K Q :=
  wp_value hI hin hrun (Ext.refl _ _ _) hI.lt (fun b o h => .inl h) hv rooms_nil (fun i g h => by cases h) (fun i i' g h => by cases h) hK

theorem exec_v {v : Value} {w' : World} {x : Sem Value} (h : x.run P w = .ok v w') : ((do pure (.value (← x)) : Sem Next)).run P w = .ok (.value v) w' := by
  rw [Sem.run_bind, h]
  rfl
theorem map_den (hI : Inv P n S0 F0 w0 ν F cls s a w) (xs : List Operand) : (xs.map a.eval).length = (xs.map (get s.slot)).length ∧ ∀ (i : Nat) (v : Value) (x : D), (xs.map a.eval)[i]? = some v → (xs.map (get s.slot))[i]? = some x → Den s.ctr ν F w v x := by
  refine ⟨by simp, fun i v x hv hx => ?_⟩
  rw [List.getElem?_map] at hv hx
  cases hxi : xs[i]? with
  | none => rw [hxi] at hv; cases hv
  | some y =>
    rw [hxi] at hv hx
    simp at hv hx
    subst hv hx
    exact get_den hI.gok hI.slots y
theorem pairs_den (hI : Inv P n S0 F0 w0 ν F cls s a w) (ps : Array (Nat × Operand)) : ((ps.map fun (i, x) => (i, a.eval x)).toList).length = (ps.toList.map fun p => (p.1, get s.slot p.2)).length ∧
    ∀ (i : Nat) (v : Nat × Value) (x : Nat × D), ((ps.map fun (i, x) => (i, a.eval x)).toList)[i]? = some v → (ps.toList.map fun p => (p.1, get s.slot p.2))[i]? = some x → v.1 = x.1 ∧ Den s.ctr ν F w v.2 x.2 := by
  refine ⟨by simp, fun i v x hv hx => ?_⟩
  rw [Array.toList_map, List.getElem?_map] at hv
  rw [List.getElem?_map] at hx
  cases hxi : ps.toList[i]? with
  | none => rw [hxi] at hv; cases hv
  | some y =>
    rw [hxi] at hv hx
    simp at hv hx
    subst hv hx
    exact ⟨rfl, get_den hI.gok hI.slots y.2⟩
theorem nilR_ok (u : Value) : RoomAt P F w (some u) (some (cval1 u)) (some (nilR u)) none := by
  unfold nilR
  split
  · exact ⟨rfl, [], none, rfl, rfl⟩
  · rfl
theorem vroom_ok (v : Value) : RoomsOK P F w v (cval v) (vroom v) (fun _ => none) := by
  intro i
  unfold vroom
  split
  · cases i with
    | zero => exact ⟨rfl, [], none, rfl, rfl⟩
    | succ i => exact RoomAt.none_
  · rename_i vs
    split
    · rename_i hv
      simp only [comp, cval, if_pos hv, dcomp, List.getElem?_map, Array.getElem?_toList]
      cases vs[i]? with
      | none => exact RoomAt.none_
      | some u => exact nilR_ok u
    · exact RoomAt.none_
  · exact RoomAt.none_
theorem croom_ok (x : Operand) : RoomsOK P F w (a.eval x) (get s.slot x) (croom x) (fun _ => none) := by
  cases x with
  | const v => exact vroom_ok v
  | _ => exact fun i => RoomAt.none_
theorem comp_zero_list {v : Value} {es : List D} (h : Den0 F w v (.list es)) : comp v 0 = some v := by
  cases h; rfl
theorem own_of_rooms {v : Value} {x : D} {r : List Room} {cl : Nat → Option Nat} {e : TypeId} (h : RoomsOK P F w v x r cl) (hr : r = [.full] ∨ r = [.own e] ∨ r = [.fresh]) {es : List D} (hx : x = .list es) (hv : ∃ a n c, v = .slice a n c) : ∃ cl', Own P F w e v es.length cl' ∧ ∀ g, cl' = some g → cl 0 = some g := by
  obtain ⟨a0, n0, c0, rfl⟩ := hv
  subst hx
  have h0 := h 0
  rcases hr with rfl | rfl | rfl
  · obtain ⟨h1, es', a', h2, h3⟩ := h0
    injection h3 with h3
    injection h3 with h3
    injection h2 with h2
    subst h3
    rw [h2]
    exact ⟨none, ⟨a', rfl⟩, fun g h => by cases h⟩
  · obtain ⟨u, es', h1, h2, h3⟩ := h0
    injection h2 with h2
    injection h2 with h2
    injection h1 with h1
    subst h2 h1
    exact ⟨_, h3, fun g h => h⟩
  · obtain ⟨g, es', C, e', h1, h2, h3, h4⟩ := h0
    injection h3 with h3
    injection h3 with h3
    injection h2 with h2
    subst h3
    rw [h2]
    exact ⟨none, ⟨_, rfl⟩, fun g h => by cases h⟩
theorem Den0.slice_ {v : Value} {es : List D} (h : Den0 F w v (.list es)) : ∃ a n c, v = .slice a n c := by
  cases h with | list a n c => exact ⟨a, n, c, rfl⟩
theorem run_invoke_func (hP : Fine P) {f : FuncId} (h : ∃ fn, P.funcs[f]? = some fn ∧ fn.body.isSome = true) (args captured : Array Value) : (invoke (.fn (.func f) captured) args).run P w = .ok (.enter f (args ++ captured)) w := by
  obtain ⟨fn, hf, hb⟩ := h
  have hnm := hP.names f fn hf
  have hb' : fn.body.isNone = false := by cases hfb : fn.body <;> simp_all
  simp only [invoke, callFunc, Sem.run_bind]
  simp [program, Sem.run, hf, hnm, hb', Result.andThen]
end
end Go.Av
namespace Go.Av
open Go.RowKit
variable [Gs]

section
variable {P : Program} {n : Nat} {S0 : Gv} {F0 : Nat → Nat → Prop} {w0 : World} {ν : Nat → Nat → Nat} {F : Nat → Nat → Prop} {cls : Cl → Nat → Option Nat} {s : St} {a : Act} {w : World}
variable {K : Act → World → Prop} {Q : Exit → Act → World → Prop} {o : Oper} {call : Call} {E : List Tmp}

theorem plainR_spec {x : Option (D × List Room × List Bx)} {d : D} {r : List Room} (h : plainR x = some (d, r)) : x = some (d, r, []) := by
  unfold plainR at h
  split at h
  · injection h with h
    injection h with h1 h2
    rw [h1, h2]
  · cases h
theorem ok_some {d0 : Option D} {d : D} {r : List Room} (h : d0.map (fun d => (d, ([] : List Room))) = some (d, r)) : d0 = some d ∧ r = [] := by
  obtain ⟨x, hx, he⟩ := Option.map_eq_some_iff.1 h
  injection he with h1 h2
  exact ⟨by rw [hx, h1], h2.symm⟩
theorem box_load (hI : Inv P n S0 F0 w0 ν F cls s a w) {k g off : Nat} {bx : Bx} {t : TypeId} {d : D} {v : Value} (hv : Den s.ctr ν F w v (.ptr k g off)) (hb : s.box k = some bx) (hg : bx.gen = g) (h : dpart P t bx.cells off = some d) :
    ∃ u, (Instr.loadAt t v).run P w = .ok u w ∧ Den0 F w u d := by
  obtain ⟨rfl, _⟩ := hv.ptr_
  subst hg
  obtain ⟨⟨vs, ty, rest, fr, ⟨h1, _⟩, h2, h3, h4, _⟩, _⟩ := hI.boxes k bx hb
  obtain ⟨u, hr, hd⟩ := run_load_part (P := P) (F := F) (w := w) (b := ν k bx.gen) (o := 0) h2 (fun i v hi => ⟨by
    rw [cell_of_row w _ _ _ _ _ h1, Nat.zero_add]
    have hlt := (List.getElem?_eq_some_iff.1 hi).1
    simpa [List.getElem?_append_left hlt] using hi, h3 v (List.mem_of_getElem? hi)⟩) h4 h
  rw [Nat.zero_add] at hr
  exact ⟨u, by simp only [Instr.loadAt, Instr.sureAddr, Sem.run_bind, Sem.run_pure, Result.andThen_ok, hr], hd⟩

/-! ### The rights of a literal -/
theorem clearR_at : ∀ (rs : List Room) (off n i : Nat), (clearR rs off n)[i]? = if off ≤ i ∧ i < off + n then (rs[i]?).map (fun _ => .no) else rs[i]?
  | [], off, n, i => by simp [clearR]
  | r :: rs, 0, 0, i => by simp [clearR]
  | r :: rs, 0, n + 1, 0 => by simp [clearR]
  | r :: rs, 0, n + 1, i + 1 => by
    have := clearR_at rs 0 n i
    simp only [clearR, List.getElem?_cons_succ, this, Nat.zero_le, true_and, Nat.zero_add]
    by_cases h : i < n
    · rw [if_pos h, if_pos (by omega)]
    · rw [if_neg h, if_neg (by omega)]
  | r :: rs, off + 1, n, 0 => by simp [clearR]
  | r :: rs, off + 1, n, i + 1 => by
    have := clearR_at rs off n i
    simp only [clearR, List.getElem?_cons_succ, this]
    by_cases h : off ≤ i ∧ i < off + n
    · rw [if_pos h, if_pos (by omega)]
    · rw [if_neg h, if_neg (by omega)]
theorem clearPs_at {place : Nat → Option (Nat × Nat)} : ∀ (l : List Nat) (rs : List Room) (i : Nat) (r : Room), (clearPs place rs l)[i]? = some r → r = .no ∨ (rs[i]? = some r ∧ ∀ k ∈ l, ∀ off size, place k = some (off, size) → ¬ (off ≤ i ∧ i < off + size))
  | [], rs, i, r, h => .inr ⟨h, fun k hk => by simp at hk⟩
  | k :: l, rs, i, r, h => by
    unfold clearPs at h
    cases hp : place k with
    | none => rw [hp] at h; simp at h
    | some p =>
      obtain ⟨off, size⟩ := p
      rw [hp] at h
      rcases clearPs_at l _ i r h with h | ⟨h1, h2⟩
      · exact .inl h
      · rw [clearR_at] at h1
        split at h1
        · left
          cases hrs : rs[i]? with
          | none => rw [hrs] at h1; simp at h1
          | some r0 => rw [hrs] at h1; simpa using h1.symm
        · rename_i hn
          refine .inr ⟨h1, fun k' hk' off' size' hp' => ?_⟩
          rcases List.mem_cons.1 hk' with rfl | hk'
          · rw [hp] at hp'
            injection hp' with hp'
            injection hp' with e1 e2
            subst e1 e2
            exact hn
          · exact h2 k' hk' off' size' hp'
theorem fill_keep {place : Nat → Option (Nat × Nat)} : ∀ (l : List (Nat × Value)) (cells cells' : Array Value) (i : Nat), Instr.fill place cells l = some cells' → (∀ k ∈ l.map (·.1), ∀ off size, place k = some (off, size) → ¬ (off ≤ i ∧ i < off + size)) → cells'[i]? = cells[i]?
  | [], cells, cells', i, h, _ => by simp only [Instr.fill] at h; injection h with h; rw [h]
  | (k, v) :: l, cells, cells', i, h, hn => by
    simp only [Instr.fill] at h
    cases hp : place k with
    | none => rw [hp] at h; cases h
    | some p =>
      obtain ⟨off, size⟩ := p
      rw [hp] at h
      simp only at h
      split at h
      · cases h
      · rename_i hc
        have hc' : v.cells.size = size ∧ off + v.cells.size ≤ cells.size := by
          simp only [Bool.or_eq_true, decide_eq_true_eq, ne_eq] at hc
          omega
        have ih := fill_keep l _ cells' i h (fun k' hk' => hn k' (by simp [hk']))
        rw [ih]
        have hl := laid (off := off) (vs := v.cells.toList) (cells := cells) (by simpa using hc'.2)
        have hni := hn k (by simp) off size hp
        rw [← Array.foldl_toList]
        have e : (v.cells.zipIdx).toList = v.cells.toList.zipIdx := by simp
        rw [e, ← Array.getElem?_toList, ← Array.getElem?_toList]
        rw [show (fun (cs : Array Value) (x : Value × Nat) => match x with | (c, j) => cs.setIfInBounds (off + j) c) = (fun cs (x : Value × Nat) => cs.setIfInBounds (off + x.2) x.1) from rfl, hl]
        have hlen : v.cells.toList.length = size := by simpa using hc'.1
        by_cases h1 : i < off
        · rw [List.append_assoc, List.getElem?_append_left (by simp; omega), List.getElem?_take, if_pos h1]
        · rw [List.getElem?_append_right (by simp; omega), List.getElem?_drop]
          congr 1
          simp
          omega
theorem dfill_keep {place : Nat → Option (Nat × Nat)} : ∀ (l : List (Nat × D)) (cs r : List D) (i : Nat), dfill place cs l = some r → (∀ k ∈ l.map (·.1), ∀ off size, place k = some (off, size) → ¬ (off ≤ i ∧ i < off + size)) → r[i]? = cs[i]?
  | [], cs, r, i, h, _ => by simp only [dfill] at h; injection h with h; rw [h]
  | (k, d) :: l, cs, r, i, h, hn => by
    simp only [dfill] at h
    cases hp : place k with
    | none => rw [hp] at h; cases h
    | some p =>
      obtain ⟨off, size⟩ := p
      rw [hp] at h
      simp only at h
      split at h
      · rename_i hc
        rw [dfill_keep l _ r i h (fun k' hk' => hn k' (by simp [hk']))]
        have hni := hn k (by simp) off size hp
        by_cases h1 : i < off
        · rw [List.append_assoc, List.getElem?_append_left (by simp; omega), List.getElem?_take, if_pos h1]
        · rw [List.getElem?_append_right (by simp; omega), List.getElem?_drop]
          congr 1
          simp
          omega
      · cases h
theorem vroom_full {z : Value} {i : Nat} {r : Room} (h : (vroom z)[i]? = some r) (hr : r ≠ .no) : r = .full ∧ z.cells[i]? = some (.slice none 0 0) ∧ ∀ zs, zeroCells z = some zs → zs[i]? = some (.list []) := by
  have nil : ∀ {u : Value} {r : Room}, nilR u = r → r ≠ .no → r = .full ∧ u = .slice none 0 0 := by
    intro u r h1 h2
    unfold nilR at h1
    split at h1
    · exact ⟨h1.symm, rfl⟩
    · exact absurd h1.symm h2
  unfold vroom at h
  split at h
  · cases i with
    | zero =>
      simp at h
      subst h
      refine ⟨rfl, rfl, fun zs hz => ?_⟩
      simp only [zeroCells] at hz
      injection hz with hz
      subst hz
      rfl
    | succ i => simp at h
  · rename_i vs
    split at h
    · rename_i hv
      rw [List.getElem?_map] at h
      obtain ⟨u, hu, h⟩ := Option.map_eq_some_iff.1 h
      obtain ⟨h1, rfl⟩ := nil h hr
      refine ⟨h1, by simpa [Value.cells] using hu, fun zs hz => ?_⟩
      simp only [zeroCells, if_pos hv] at hz
      injection hz with hz
      subst hz
      rw [List.getElem?_map, hu]
      rfl
    · simp at h
  · simp at h
theorem run_buildR {c : Nat → Nat} {ν : Nat → Nat → Nat} {F : Nat → Nat → Prop} {w : World} {t : TypeId} {parts : List (Nat × D)} {vparts : Array (Nat × Value)} {d : D} (hl : vparts.toList.length = parts.length)
    (hp : ∀ (i : Nat) (v : Nat × Value) (x : Nat × D), vparts.toList[i]? = some v → parts[i]? = some x → v.1 = x.1 ∧ Den c ν F w v.2 x.2) (h : dbuild P t parts = some d) :
    ∃ u, (Instr.build t vparts).run P w = .ok u w ∧ Den c ν F w u d ∧ RoomsOK P F w u d (buildR P t (parts.map (·.1))) (fun _ => none) := by
  have h0 := h
  unfold dbuild at h
  split at h
  · rename_i fs zero hu hz
    obtain ⟨ps, hps, h⟩ := Option.bind_eq_some_iff.1 h
    obtain ⟨r, hr, rfl⟩ := Option.map_eq_some_iff.1 h
    have hz' := hz
    unfold zeroOf at hz
    obtain ⟨it, hit, hz⟩ := Option.bind_eq_some_iff.1 hz
    obtain ⟨z, hz0, hz⟩ := Option.bind_eq_some_iff.1 hz
    obtain ⟨z1, z2, z3⟩ := zero_den (c := c) (ν := ν) (F := F) (w := w) hz
    obtain ⟨cells', hf, k1, k2, k3⟩ := run_dfill (c := c) (ν := ν) (F := F) (w := w) hl hp z1 z2 z3 hr
    have hmap : vparts.toList.map (·.1) = parts.map (·.1) := by
      apply List.ext_getElem?
      intro i
      rw [List.getElem?_map, List.getElem?_map]
      cases hv : vparts.toList[i]? with
      | none => rw [List.getElem?_eq_none (by rw [← hl]; exact List.getElem?_eq_none_iff.1 hv)]; rfl
      | some v =>
        obtain ⟨x, hx⟩ := getElem?_of_len hl hv
        rw [hx, Option.map_some, Option.map_some, (hp i v x hv hx).1]
    refine ⟨.agg cells', run_build w t vparts cells' ?_, ?_, ?_⟩
    · unfold Program.built
      unfold places at hps
      simp only [hit, hu, hz0, hps]
      simpa using hf
    · have : Den c ν F w (.agg cells'.toList.toArray) (.agg r) := .agg cells'.toList r k1 k2 k3
      simpa using this
    · intro i
      have hb : buildR P t (parts.map (·.1)) = clearPs (ps[·]?) (vroom z) (parts.map (·.1)) := by
        unfold buildR zrooms
        simp only [hu, hps, hit, hz0, Option.bind_some]
      rw [hb]
      cases hc : (clearPs (ps[·]?) (vroom z) (parts.map (·.1)))[i]? with
      | none => exact RoomAt.none_
      | some q =>
        by_cases hq : q = .no
        · subst hq; rfl
        · obtain ⟨c1, c2⟩ := (clearPs_at _ _ _ _ hc).resolve_left hq
          obtain ⟨rfl, c3, c4⟩ := vroom_full c1 hq
          have e1 := fill_keep vparts.toList z.cells cells' i (by simpa using hf) (by rw [hmap]; exact c2)
          have e2 := dfill_keep parts zero r i hr c2
          rw [c3] at e1
          rw [c4 zero hz] at e2
          exact ⟨rfl, [], none, e1, e2⟩
  · cases h
theorem run_mark {w : World} {t e : TypeId} {C : Array Value} {g n c : Nat} {e' : TypeId} (ht : P.underlying t = some (.slice e)) (he : P.underlying e = some (.int .u8)) (hg : w.heap[g]? = some (.cells C e' (0, 0))) :
    ∃ w', (convert t t (.slice (some ⟨g, 0, none⟩) n c)).run P w = .ok (.slice (some ⟨g, 0, none⟩) n c) w' ∧ w'.heap[g]? = some (.cells C e' (C.size, C.size + 1)) ∧ w'.heap.size = w.heap.size ∧ (∀ b, b ≠ g → w'.heap[b]? = w.heap[b]?) ∧ w'.os = w.os ∧ w'.tape = w.tape ∧ w'.output = w.output := by
  have hsh : w.shape? g = some (e', C.size) := by
    unfold World.shape?
    rw [hg]
  refine ⟨w.freeze ⟨g, C.size, none⟩ 1, ?_, ?_, ?_, fun b hb => ?_, ?_, ?_, ?_⟩
  · simp [convert, run_underlying ht, run_underlying he, markStringish, hsh]
  · unfold World.freeze
    rw [if_neg (by decide)]
    simp [Array.getElem?_modify, hg]
  · unfold World.freeze
    rw [if_neg (by decide)]
    simp
  · unfold World.freeze
    rw [if_neg (by decide)]
    simp [Array.getElem?_modify, Ne.symm hb]
  · unfold World.freeze; rw [if_neg (by decide)]
  · unfold World.freeze; rw [if_neg (by decide)]
  · unfold World.freeze; rw [if_neg (by decide)]
theorem callArgs_run (hP : Fine P) (hI : Inv P n S0 F0 w0 ν F cls s a w) {g : FuncId} {args : List D} (h : callArgs o s.slot = some (g, args)) (hfn : ∃ fn, P.funcs[g]? = some fn ∧ fn.body.isSome = true) :
    ∃ vals : List Value, vals.length = args.length ∧ (∀ (i : Nat) (v : Value) (x : D), vals[i]? = some v → args[i]? = some x → Den s.ctr ν F w v x) ∧ (execOp a.eval o).run P w = .ok (.enter g vals.toArray) w := by
  obtain ⟨dst, op, ty, pos, after, guard⟩ := o
  have G := fun x => get_den hI.gok hI.slots (a := a) x
  cases op with
  | call cc =>
    obtain ⟨callee, args0, ats⟩ := cc
    simp only [callArgs] at h
    split at h
    · rename_i f
      split at h
      · rename_i g' first captured hf
        injection h with h
        injection h with h1 h2
        subst h1 h2
        obtain ⟨m1, m2⟩ := map_den hI args0.toList
        have hgf := G f
        rw [hf] at hgf
        obtain ⟨fs, cs, hfv, l1, l2, d1, d2⟩ := hgf.func_
        refine ⟨fs ++ args0.toList.map a.eval ++ cs, by simp [l1, l2], ?_, ?_⟩
        · intro i v x hv hx
          by_cases h1 : i < (fs ++ args0.toList.map a.eval).length
          · rw [List.getElem?_append_left h1] at hv
            rw [List.getElem?_append_left (by simp at h1 ⊢; omega)] at hx
            by_cases h2 : i < fs.length
            · rw [List.getElem?_append_left h2] at hv
              rw [List.getElem?_append_left (by omega)] at hx
              exact d1 _ _ _ hv hx
            · rw [List.getElem?_append_right (by omega)] at hv hx
              rw [← l1] at hx
              exact m2 _ _ _ hv hx
          · have e1 : (first ++ args0.toList.map (get s.slot)).length = (fs ++ args0.toList.map a.eval).length := by simp [l1]
            rw [List.getElem?_append_right (by omega)] at hv hx
            rw [e1] at hx
            exact d2 _ _ _ hv hx
        · simp only [execOp, resolve, hfv, Deferred.ofValue, Sem.run_bind, Sem.run_pure, Result.andThen_ok]
          rw [run_invoke_func hP hfn]
          congr 2
          apply Array.ext'
          simp
      · cases h
    · cases h
  | _ => simp [callArgs] at h
set_option maxHeartbeats 1000000 in
theorem stepS_sound (hP : Fine P) (hcall : CallOK P call) (hI : Inv P n S0 F0 w0 ν F cls s a w) {s' : St} (hin : ∀ k, o.dst = some k → k < n) (h : stepS P call E o s = some s')
    (hK : ∀ a' w', (∃ F' cls', Inv P n S0 F0 w0 ν F' cls' s' a' w') → K a' w') : o.wp P a w K Q := by
  obtain ⟨dst, op, ty, pos, after, guard⟩ := o
  unfold stepS at h
  split at h
  case h_2 => cases h
  rename_i d r hv
  injection h with h
  subst h
  have G := fun x => get_den hI.gok hI.slots (a := a) x
  cases op with
  | move x =>
    simp only [sval] at hv
    injection hv with hv
    injection hv with hv1 hv2
    subst hv1 hv2
    cases x with
    | tmp t =>
      by_cases hst : eats E dst = true
      · have htk : stake E (⟨dst, .move (.tmp t), ty, pos, after, guard⟩ : Oper) = some (t, none) := by simp [stake, hst]
        rw [htk] at hK
        refine wp_value hI hin rfl (Ext.refl _ _ _) hI.lt (fun b o h => .inl h) (G (.tmp t)) (ncl := cls (.sl t)) (hI.rooms t) (tk := some (t, none)) (fun i g h => ⟨(hI.loc _ i g h).1, .inr (show took cls (some (t, none)) g from ⟨i, h⟩)⟩) (fun i i' g h h' => (hI.inj _ _ _ _ g h h').2) hK
      · have htk : stake E (⟨dst, .move (.tmp t), ty, pos, after, guard⟩ : Oper) = none := by simp [stake, hst]
        rw [htk] at hK
        exact wp_same hI hin rfl (G (.tmp t)) hK
    | const v => exact wp_value hI hin rfl (Ext.refl _ _ _) hI.lt (fun b o h => .inl h) (G (.const v)) (croom_ok (.const v)) (fun i g h => by cases h) (fun i i' g h => by cases h) hK
    | global g => exact wp_same hI hin rfl (G (.global g)) hK
    | func f => exact wp_same hI hin rfl (G (.func f)) hK
  | assign x =>
    simp only [sval] at hv
    injection hv with hv
    injection hv with hv1 hv2
    subst hv1 hv2
    cases x with
    | tmp t => exact wp_value hI hin rfl (Ext.refl _ _ _) hI.lt (fun b o h => .inl h) (G (.tmp t)) (ncl := cls (.sl t)) (hI.rooms t) (tk := some (t, none)) (fun i g h => ⟨(hI.loc _ i g h).1, .inr (show took cls (some (t, none)) g from ⟨i, h⟩)⟩) (fun i i' g h h' => (hI.inj _ _ _ _ g h h').2) hK
    | const v => exact wp_value hI hin rfl (Ext.refl _ _ _) hI.lt (fun b o h => .inl h) (G (.const v)) (croom_ok (.const v)) (fun i g h => by cases h) (fun i i' g h => by cases h) hK
    | global g => exact wp_same hI hin rfl (G (.global g)) hK
    | func f => exact wp_same hI hin rfl (G (.func f)) hK
  | pick c x y =>
    simp only [sval] at hv
    split at hv
    · rename_i t ht
      injection hv with hv
      injection hv with hv1 hv2
      subst hv1 hv2
      have hc := G c
      rw [ht] at hc
      have hrun : (execOp a.eval ⟨dst, .pick c x y, ty, pos, after, guard⟩).run P w = .ok (.value (if t then a.eval x else a.eval y)) w := by
        simp only [execOp, hc.bool_, asBool, Sem.run_bind, Sem.run_pure, Result.andThen_ok]
      refine wp_same hI hin hrun ?_ hK
      cases t
      · exact G y
      · exact G x
    · cases hv
  | load t x =>
    simp only [sval] at hv
    split at hv
    · rename_i d0 off hx
      obtain ⟨hv1, rfl⟩ := ok_some hv
      have hg := G x
      rw [hx] at hg
      obtain ⟨u, hr, hd⟩ := run_load_fix (P := P) hg.fix_ hv1
      exact wp_same hI hin (exec_v hr) (.pure _ _ hd) hK
    · rename_i k g off hx
      split at hv
      · rename_i bx hb
        split at hv
        · rename_i hgen
          obtain ⟨hv1, rfl⟩ := ok_some hv
          have hg := G x
          rw [hx] at hg
          obtain ⟨u, hr, hd⟩ := box_load hI hg hb hgen hv1
          exact wp_same hI hin (exec_v hr) (.pure _ _ hd) hK
        · cases hv
      · cases hv
    · cases hv
  | nilCheck x =>
    simp only [sval] at hv
    split at hv
    · rename_i d0 off hx
      injection hv with hv
      injection hv with hv1 hv2
      subst hv1 hv2
      have hg := G x
      rw [hx] at hg
      have hg' := hg.fix_
      generalize hval : a.eval x = u at hg hg'
      cases hg'
      refine wp_same hI hin ?_ hg hK
      simp only [execOp, hval]
      rfl
    · rename_i k g off hx
      injection hv with hv
      injection hv with hv1 hv2
      subst hv1 hv2
      have hg := G x
      rw [hx] at hg
      have hval := hg.ptr_.1
      refine wp_same hI hin (v := a.eval x) ?_ hg hK
      simp only [execOp, hval]
      rfl
    · cases hv
  | binOp op t x y yt =>
    simp only [sval] at hv
    obtain ⟨hv1, rfl⟩ := ok_some hv
    obtain ⟨u, hr, hd⟩ := run_bin (P := P) (G x) (G y) hv1
    exact wp_same hI hin (exec_v hr) hd hK
  | unOp op t x =>
    simp only [sval] at hv
    obtain ⟨hv1, rfl⟩ := ok_some hv
    obtain ⟨u, hr, hd⟩ := run_un (P := P) (G x) hv1
    exact wp_same hI hin (exec_v hr) hd hK
  | convert src dt x =>
    simp only [sval] at hv
    obtain ⟨hv1, rfl⟩ := ok_some hv
    by_cases hsd : src = dt
    · subst hsd
      rw [if_pos rfl] at hv1
      unfold dmark at hv1
      split at hv1
      · rename_i es hxe hrm
        split at hv1
        · rename_i hcond
          injection hv1 with hv1
          subst hv1
          cases x with
          | tmp t =>
            have htk : stake E (⟨dst, .convert src src (.tmp t), ty, pos, after, guard⟩ : Oper) = some (t, none) := by simp [stake]
            rw [htk] at hK hrm
            have hrm' : s.room t = [.fresh] := hrm
            have hgx := G (.tmp t)
            have hxe' : s.slot t = .list es := hxe
            have hro := hI.rooms t 0
            rw [hrm', hxe'] at hro
            rw [hxe] at hgx
            have hdl := hgx.list_
            rw [show comp (a.tmps.getD t undef) 0 = some (a.tmps.getD t undef) from comp_zero_list hdl] at hro
            obtain ⟨g, es', C, e', h1, h2, h3, h4⟩ := hro
            injection h3 with h3
            injection h3 with h3
            subst h3
            injection h2 with h2
            obtain ⟨hb1, hb2⟩ : bytesT P src = true ∧ True := ⟨hcond.2, trivial⟩
            unfold bytesT at hb1
            split at hb1
            · rename_i e0 he0
              split at hb1
              · rename_i he1
                have hv : a.eval (.tmp t) = .slice (some ⟨g, 0, none⟩) es.length es.length := h2
                obtain ⟨w', hr, hh, hsz, hoth, ho1, ho2, ho3⟩ := run_mark (P := P) (n := es.length) (c := es.length) he0 he1 h4
                have hsep : ∀ b, took cls (some (t, none)) b → True := fun _ _ => trivial
                have hE : Ext (took cls (some (t, none))) F w F w' := by
                  refine ⟨ho1, ho2, ho3, by rw [hsz]; exact Nat.le_refl _, fun b _ hb => hoth b (fun e => hb (by rw [e]; exact ⟨0, h1⟩)), fun b o h => h, fun b o hF => ?_, fun b es0 ck hF hm => ?_⟩
                  · by_cases hbg : b = g
                    · subst hbg
                      rw [cell_of_row w' b o C e' _ hh, cell_of_row w b o C e' _ h4]
                    · exact World.cell?_of_block (a := ⟨b, o, none⟩) (hoth b hbg)
                  · by_cases hbg : b = g
                    · subst hbg
                      rw [h4] at hm
                      cases hm
                    · exact (hoth b hbg).trans hm
                refine wp_value hI hin (exec_v (by rw [hv]; exact hr)) hE (fun b o hF => by rw [hsz]; exact hI.lt b o hF) (fun b o h => .inl h) (.pure _ _ ((hv ▸ hdl : Den0 F w _ _).ext hE)) rooms_nil (fun i g h => by cases h) (fun i i' g h => by cases h) hK
              · cases hb1
            · cases hb1
          | const v =>
            have htk : stake E (⟨dst, .convert src src (.const v), ty, pos, after, guard⟩ : Oper) = none := rfl
            rw [htk] at hrm
            cases hrm
          | global v =>
            have htk : stake E (⟨dst, .convert src src (.global v), ty, pos, after, guard⟩ : Oper) = none := rfl
            rw [htk] at hrm
            cases hrm
          | func v =>
            have htk : stake E (⟨dst, .convert src src (.func v), ty, pos, after, guard⟩ : Oper) = none := rfl
            rw [htk] at hrm
            cases hrm
        · cases hv1
      · cases hv1
    rw [if_neg hsd] at hv1
    obtain ⟨u, w', F', hr, hE, hlt, hnew, hd⟩ := run_conv (P := P) hI.lt (G x) hv1
    exact wp_value hI hin (exec_v hr) (hE.weaken fun b _ h => h.elim) hlt (fun b o h => (hnew b o h).imp id .inl) (.pure _ _ hd) rooms_nil (fun i g h => by cases h) (fun i i' g h => by cases h) hK
  | makeInterface t x =>
    simp only [sval] at hv
    split at hv
    · cases hv
    · cases hv
    · rename_i td hnot htd
      injection hv with hv
      injection hv with hv1 hv2
      subst hv1 hv2
      have hr : (Instr.makeInterface t (a.eval x)).run P w = .ok (.iface t (a.eval x)) w := by
        simp only [Instr.makeInterface, Sem.run_bind, run_underlying htd, Result.andThen_ok]
        cases td <;> first | rfl | exact absurd rfl (hnot _)
      exact wp_same hI hin (exec_v hr) (.iface t _ _ (G x)) hK
  | makeFunc fn f cp =>
    simp only [sval] at hv
    injection hv with hv
    injection hv with hv1 hv2
    subst hv1 hv2
    obtain ⟨f1, f2⟩ := map_den hI f.toList
    obtain ⟨c1, c2⟩ := map_den hI cp.toList
    have hd : Den s.ctr ν F w (.func fn (f.toList.map a.eval).toArray (cp.toList.map a.eval).toArray) (.func fn (f.toList.map (get s.slot)) (cp.toList.map (get s.slot))) := .func fn _ _ _ _ f1 c1 f2 c2
    refine wp_same hI hin (v := .func fn (f.map a.eval) (cp.map a.eval)) rfl ?_ hK
    have e1 : f.map a.eval = (f.toList.map a.eval).toArray := by apply Array.ext'; simp
    have e2 : cp.map a.eval = (cp.toList.map a.eval).toArray := by apply Array.ext'; simp
    rw [e1, e2]
    exact hd
  | makeSlice t l cc =>
    simp only [sval] at hv
    obtain ⟨e, he, hv⟩ := Option.map_eq_some_iff.1 hv
    injection hv with hv1 hv2
    subst hv1 hv2
    obtain ⟨v, w', hr, hE, hlt, hd, hO⟩ := run_make_ (P := P) hI.lt (G l) (G cc) he
    refine wp_value hI hin (exec_v hr) (hE.weaken fun b _ h => h.elim) hlt (fun b o h => .inl h) (.pure _ _ hd) (ncl := fun i => if i = 0 then some w.heap.size else none) ?_ ?_ ?_ hK
    · intro i
      cases i with
      | zero => exact ⟨v, [], comp_zero_list hd, rfl, hO⟩
      | succ i => simp [RoomAt]
    · intro i g hg
      split at hg
      · injection hg with hg
        subst hg
        obtain ⟨_, _, _, _, h2, _⟩ := hO
        exact ⟨lt_of_heap h2, .inl (Nat.le_refl _)⟩
      · cases hg
    · intro i i' g hg hg'
      split at hg
      · split at hg'
        · omega
        · cases hg'
      · cases hg
  | slice t x lo hi mx =>
    simp only [sval] at hv
    obtain ⟨hv1, rfl⟩ := ok_some hv
    cases mx with
    | some m =>
      obtain ⟨u, hr, hd⟩ := run_slice3 (P := P) (G x) (lo := lo.map (get s.slot)) (hi := hi.map (get s.slot)) (vlo := lo.map a.eval) (vhi := hi.map a.eval)
        (fun v d h1 h2 => by cases lo with | none => cases h1 | some y => injection h1 with h1; injection h2 with h2; subst h1 h2; exact G y)
        (fun v d h1 h2 => by cases hi with | none => cases h1 | some y => injection h1 with h1; injection h2 with h2; subst h1 h2; exact G y) (by simp) (by simp) (G m) hv1
      exact wp_same hI hin (exec_v hr) hd hK
    | none =>
      obtain ⟨u, hr, hd⟩ := run_slice_ (P := P) (G x) (lo := lo.map (get s.slot)) (hi := hi.map (get s.slot)) (vlo := lo.map a.eval) (vhi := hi.map a.eval)
        (fun v d h1 h2 => by cases lo with | none => cases h1 | some y => injection h1 with h1; injection h2 with h2; subst h1 h2; exact G y)
        (fun v d h1 h2 => by cases hi with | none => cases h1 | some y => injection h1 with h1; injection h2 with h2; subst h1 h2; exact G y) (by simp) (by simp) hv1
      exact wp_same hI hin (exec_v hr) hd hK
  | fieldAddr t x i =>
    simp only [sval] at hv
    obtain ⟨hv1, rfl⟩ := ok_some hv
    obtain ⟨u, hr, hd⟩ := run_fieldAddr (P := P) (G x) hv1
    exact wp_same hI hin (exec_v hr) hd hK
  | field t x i =>
    simp only [sval] at hv
    obtain ⟨hv1, rfl⟩ := ok_some hv
    obtain ⟨u, hr, hd⟩ := run_field (P := P) (G x) hv1
    exact wp_same hI hin (exec_v hr) hd hK
  | indexAddr t x i =>
    simp only [sval] at hv
    obtain ⟨hv1, rfl⟩ := ok_some hv
    obtain ⟨u, hr, hd⟩ := run_indexAddr (P := P) (G x) (G i) hv1
    exact wp_same hI hin (exec_v hr) hd hK
  | index t x i =>
    simp only [sval] at hv
    obtain ⟨hv1, rfl⟩ := ok_some hv
    obtain ⟨u, hr, hd⟩ := run_index (P := P) (G x) (G i) hv1
    exact wp_same hI hin (exec_v hr) hd hK
  | lookup t x i cm =>
    cases cm with
    | true => simp [sval] at hv
    | false =>
      simp only [sval] at hv
      obtain ⟨hv1, rfl⟩ := ok_some hv
      obtain ⟨u, hr, hd⟩ := run_lookup (P := P) (G x) (G i) hv1
      exact wp_same hI hin (exec_v hr) hd hK
  | extract x i =>
    simp only [sval] at hv
    split at hv
    · rename_i cs hx
      split at hv
      · rename_i d0 hd0
        injection hv with hv
        injection hv with hv1 hv2
        subst hv1 hv2
        have hg := G x
        rw [hx] at hg
        obtain ⟨u, hr, hd⟩ := run_extract (P := P) hg hd0
        cases x with
        | tmp t =>
          obtain ⟨vs, hvs, hl, _⟩ := hg.tuple_
          have hvu : vs[i]? = some u := by
            simp only [hvs, Instr.extract] at hr
            cases hvi : vs[i]? with
            | none => simp [hvi, stuck] at hr
            | some u' => simp [hvi] at hr; rw [hr]
          have hroom := hI.rooms t i
          have hslot : s.slot t = .tuple cs := hx
          have hval : a.tmps.getD t undef = .tuple vs.toArray := hvs
          rw [hslot, hval] at hroom
          simp only [comp, dcomp, hd0, List.getElem?_toArray, hvu] at hroom
          cases hri : (s.room t)[i]? with
          | none =>
            rw [hri] at hroom
            have : s.taken (stake E ⟨dst, .extract (.tmp t) i, ty, pos, after, guard⟩) = [] := by simp [stake, St.taken, hri]
            rw [this] at hK
            exact wp_same hI hin (exec_v hr) hd hK
          | some rm =>
            rw [hri] at hroom
            have hstk : stake E ⟨dst, .extract (.tmp t) i, ty, pos, after, guard⟩ = some (t, some i) := rfl
            have : s.taken (stake E ⟨dst, .extract (.tmp t) i, ty, pos, after, guard⟩) = [rm] := by simp [stake, St.taken, hri]
            rw [this] at hK
            rw [hstk] at hK
            refine wp_value hI hin (exec_v hr) (Ext.refl _ _ _) hI.lt (fun b o h => .inl h) hd (ncl := fun j => if j = 0 then cls (.sl t) i else none) ?_ ?_ ?_ hK
            · intro j
              cases j with
              | zero =>
                simp only [List.getElem?_cons_zero, if_true]
                cases rm with
                | no => exact hroom
                | own e =>
                  obtain ⟨u', es, h1, h2, h3⟩ := hroom
                  injection h1 with h1
                  injection h2 with h2
                  subst h1 h2
                  exact ⟨u, es, comp_zero_list hd.list_, rfl, h3⟩
                | full =>
                  obtain ⟨h1, es, a', h2, h3⟩ := hroom
                  injection h2 with h2
                  injection h3 with h3
                  subst h2 h3
                  exact ⟨h1, es, a', rfl, rfl⟩
                | fresh =>
                  obtain ⟨g0, es, C, e', h1, h2, h3, h4⟩ := hroom
                  injection h2 with h2
                  injection h3 with h3
                  subst h2 h3
                  exact ⟨g0, es, C, e', h1, rfl, rfl, h4⟩
              | succ j => simp [RoomAt]
            · intro j g hg
              split at hg
              · exact ⟨(hI.loc _ i g hg).1, .inr hg⟩
              · cases hg
            · intro j j' g hg hg'
              split at hg
              · split at hg'
                · omega
                · cases hg'
              · cases hg
        | const v =>
          exact wp_same hI hin (exec_v hr) hd hK
        | global g => exact wp_same hI hin (exec_v hr) hd hK
        | func f => exact wp_same hI hin (exec_v hr) hd hK
      · cases hv
    · cases hv
  | build t ps =>
    simp only [sval] at hv
    obtain ⟨d', hd', hv⟩ := Option.map_eq_some_iff.1 hv
    injection hv with hv1 hv2
    subst hv1 hv2
    obtain ⟨p1, p2⟩ := pairs_den hI ps
    obtain ⟨u, hr, hd, hro⟩ := run_buildR (P := P) p1 p2 hd'
    have e1 : (ps.toList.map fun p => (p.1, get s.slot p.2)).map (·.1) = ps.toList.map (·.1) := by rw [List.map_map]; rfl
    rw [e1] at hro
    exact wp_value hI hin (exec_v hr) (Ext.refl _ _ _) hI.lt (fun b o h => .inl h) hd (ncl := fun _ => none) hro (fun i g h => by cases h) (fun i i' g h => by cases h) hK
  | buildSlice t m ps =>
    simp only [sval] at hv
    obtain ⟨d', hd', hv⟩ := Option.map_eq_some_iff.1 hv
    injection hv with hv1 hv2
    subst hv1 hv2
    obtain ⟨p1, p2⟩ := pairs_den hI ps
    obtain ⟨a', F', w', es, rfl, rfl, hr, hE, hlt, hnew, hd, C, e', rfl, hC⟩ := run_buildSlice_ (P := P) hI.lt p1 p2 hd'
    by_cases hb : bytesT P t = true
    · rw [if_pos hb] at hK
      refine wp_value hI hin (exec_v hr) (hE.weaken fun b _ h => h.elim) hlt (fun b o h => (hnew b o h).imp id .inl) (.pure _ _ hd) (ncl := fun i => if i = 0 then some w.heap.size else none) ?_ (fun i g h => ?_) (fun i i' g h h' => ?_) hK
      · intro i
        cases i with
        | zero => exact ⟨_, es, C, e', rfl, rfl, rfl, hC⟩
        | succ i => simp [RoomAt]
      · split at h
        · injection h with h
          subst h
          exact ⟨lt_of_heap hC, .inl (Nat.le_refl _)⟩
        · cases h
      · split at h
        · split at h'
          · omega
          · cases h'
        · cases h
    · rw [if_neg hb] at hK
      refine wp_value hI hin (exec_v hr) (hE.weaken fun b _ h => h.elim) hlt (fun b o h => (hnew b o h).imp id .inl) (.pure _ _ hd) (ncl := fun _ => none) ?_ (fun i g h => by cases h) (fun i i' g h => by cases h) hK
      intro i
      cases i with
      | zero => exact ⟨rfl, es, _, rfl, rfl⟩
      | succ i => simp [RoomAt]
  | call cc =>
    obtain ⟨callee, args, ats⟩ := cc
    simp only [sval] at hv
    obtain ⟨m1, m2⟩ := map_den hI args.toList
    have harr : args.map a.eval = (args.toList.map a.eval).toArray := by apply Array.ext'; simp
    have hbu : ∀ (b : Builtin) (u : Value) (w' : World), (builtin b ats ty (args.map fun | .const _ => true | _ => false) (args.map a.eval)).run P w = .ok (.value u) w' → (execOp a.eval ⟨dst, .call ⟨.builtin b, args, ats⟩, ty, pos, after, guard⟩).run P w = .ok (.value u) w' := by
      intro b u w' h
      simp only [execOp, resolve, Sem.run_bind, Sem.run_pure, Result.andThen_ok, invoke]
      exact h
    split at hv
    · -- append
      split at hv
      · rename_i x y hargs
        obtain ⟨⟨d', e⟩, hde, hv⟩ := Option.map_eq_some_iff.1 hv
        injection hv with hv1 hv2
        subst hv1 hv2
        have hargs' : args = #[x, y] := by apply Array.ext'; exact hargs
        subst hargs'
        have key : ∀ {tk : Option (Tmp × Option Nat)} {cl : Option Nat}, stake E ⟨dst, .call ⟨.builtin .append, #[x, y], ats⟩, ty, pos, after, guard⟩ = tk → (∀ es, get s.slot x = .list es → Own P F w e (a.eval x) es.length cl) → (∀ g, cl = some g → took cls tk g) →
            ∀ {r : List Room}, dappend P ats (get s.slot x) (get s.slot y) r = some (d', e) → Oper.wp P ⟨dst, .call ⟨.builtin .append, #[x, y], ats⟩, ty, pos, after, guard⟩ a w K Q := by
          intro tk cl htk hown hcl r hde
          rw [htk] at hK
          obtain ⟨v', w', F', cl', es, rfl, hr, hE, hlt, hd, hO, hncl, hnew⟩ := run_append_ (P := P) (ty := ty) hI.lt (G x) (G y) hown hde
          refine wp_value hI hin (hbu .append v' w' ?_) (hE.weaken fun b _ hb => hcl b hb) hlt (fun b o h => by
            rcases hnew b o h with h | h | h
            · exact .inl h
            · exact .inr (.inl h)
            · exact .inr (.inr (hcl b h))) (.pure _ _ hd) (ncl := fun j => if j = 0 then cl' else none) ?_ ?_ ?_ hK
          · simp only [builtin]
            have : (#[x, y] : Array Operand).map a.eval = #[a.eval x, a.eval y] := by simp
            rw [this]
            exact exec_v hr
          · intro j
            cases j with
            | zero => exact ⟨v', es, comp_zero_list hd, rfl, hO⟩
            | succ j => simp [RoomAt]
          · intro j g hg
            split at hg
            · subst hg
              rcases hncl g rfl with h | h
              · refine ⟨?_, .inr (hcl g h)⟩
                obtain ⟨j', i', h'⟩ := took_loc (hcl g h)
                exact Nat.lt_of_lt_of_le (hI.loc _ _ _ h').1 hE.size
              · obtain ⟨_, _, _, _, h2, _⟩ := hO
                exact ⟨lt_of_heap h2, .inl h⟩
            · cases hg
          · intro j j' g hg hg'
            split at hg
            · split at hg'
              · omega
              · cases hg'
            · cases hg
        have hroomEq : ∀ {r : List Room}, dappend P ats (get s.slot x) (get s.slot y) r = some (d', e) → (r = [.full] ∨ r = [.own e] ∨ r = [.fresh]) ∧ ∃ es, get s.slot x = .list es := by
          intro r hde
          unfold dappend at hde
          split at hde
          · split at hde
            · split at hde
              · rename_i hx _
                split at hde
                · split at hde
                  · rename_i hc
                    injection hde with hde
                    injection hde with _ hde
                    subst hde
                    exact ⟨hc.2.2.2.2, _, hx⟩
                  · cases hde
                · cases hde
              · cases hde
            · cases hde
          · cases hde
        cases x with
        | tmp t =>
          obtain ⟨hre, es0, hes0⟩ := hroomEq hde
          have hg := G (.tmp t)
          rw [hes0] at hg
          obtain ⟨cl', ho, hcl⟩ := own_of_rooms (hI.rooms t) hre hes0 hg.list_.slice_
          refine key (tk := some (t, none)) (cl := cl') rfl (fun es hes => ?_) (fun g hg => ⟨0, hcl g hg⟩) hde
          rw [hes0] at hes
          injection hes with hes
          subst hes
          exact ho
        | const v =>
          obtain ⟨hre, es0, hes0⟩ := hroomEq hde
          have hg := G (.const v)
          rw [hes0] at hg
          obtain ⟨cl', ho, hcl⟩ := own_of_rooms (croom_ok (P := P) (F := F) (w := w) (s := s) (a := a) (.const v)) hre hes0 hg.list_.slice_
          refine key (tk := none) (cl := none) rfl (fun es hes => ?_) (fun g hg => by cases hg) hde
          rw [hes0] at hes
          injection hes with hes
          subst hes
          cases cl' with
          | none => exact ho
          | some g => cases hcl g rfl
        | global g =>
          have := (hroomEq hde).1
          simp [croom] at this
        | func f =>
          have := (hroomEq hde).1
          simp [croom] at this
      · cases hv
    · -- len
      split at hv
      · rename_i x hargs
        obtain ⟨hv1, rfl⟩ := ok_some hv
        have hargs' : args = #[x] := by apply Array.ext'; exact hargs
        subst hargs'
        obtain ⟨u, hr, hd⟩ := run_len (P := P) (ty := ty) (G x) hv1
        refine wp_same hI hin (hbu .len u w ?_) hd hK
        simp only [builtin]
        have : (#[x] : Array Operand).map a.eval = #[a.eval x] := by simp
        rw [this]
        exact exec_v hr
      · cases hv
    · obtain ⟨hv1, rfl⟩ := ok_some hv
      obtain ⟨u, hr, hd⟩ := run_minmax (P := P) (ts := ats) (ty := ty) (mx := false) m1 m2 hv1
      refine wp_same hI hin (hbu .min u w ?_) hd hK
      simp only [builtin]
      rw [harr]
      exact exec_v hr
    · obtain ⟨hv1, rfl⟩ := ok_some hv
      obtain ⟨u, hr, hd⟩ := run_minmax (P := P) (ts := ats) (ty := ty) (mx := true) m1 m2 hv1
      refine wp_same hI hin (hbu .max u w ?_) hd hK
      simp only [builtin]
      rw [harr]
      exact exec_v hr
    · rename_i f
      split at hv
      · rename_i g first captured hf
        split at hv
        · rename_i hpure
          have hcal := plainR_spec hv
          have hgf := G f
          rw [hf] at hgf
          obtain ⟨fs, cs, hfv, l1, l2, d1, d2⟩ := hgf.func_
          obtain ⟨hfn, hcalls⟩ := hcall g _ _ _ _ _ hcal
          have hlen : (fs ++ args.toList.map a.eval ++ cs).length = (first ++ args.toList.map (get s.slot) ++ captured).length := by simp [l1, l2]
          have hden : ∀ (i : Nat) (v : Value) (x : D), (fs ++ args.toList.map a.eval ++ cs)[i]? = some v → (first ++ args.toList.map (get s.slot) ++ captured)[i]? = some x → Den s.ctr ν F w v x := by
            intro i v x hv hx
            by_cases h1 : i < (fs ++ args.toList.map a.eval).length
            · rw [List.getElem?_append_left h1] at hv
              rw [List.getElem?_append_left (by simp at h1 ⊢; omega)] at hx
              by_cases h2 : i < fs.length
              · rw [List.getElem?_append_left h2] at hv
                rw [List.getElem?_append_left (by omega)] at hx
                exact d1 _ _ _ hv hx
              · rw [List.getElem?_append_right (by omega)] at hv hx
                rw [← l1] at hx
                exact m2 _ _ _ hv hx
            · have e1 : (first ++ args.toList.map (get s.slot)).length = (fs ++ args.toList.map a.eval).length := by simp [l1]
              rw [List.getElem?_append_right (by omega)] at hv hx
              rw [e1] at hx
              exact d2 _ _ _ hv hx
          have hC := hcalls (fs ++ args.toList.map a.eval ++ cs) w F mu0 hlen (fun i v x hv hx => .pure _ _ ((hden i v x hv hx).pureB_ (by
            rw [List.all_eq_true] at hpure
            exact hpure x (List.mem_of_getElem? hx)))) (fun i bx h => by simp at h) (given0 w) hI.lt
          have hexec : (execOp a.eval ⟨dst, .call ⟨.value f, args, ats⟩, ty, pos, after, guard⟩).run P w = .ok (.enter g (fs ++ args.toList.map a.eval ++ cs).toArray) w := by
            simp only [execOp, resolve, hfv, Deferred.ofValue, Sem.run_bind, Sem.run_pure, Result.andThen_ok]
            rw [run_invoke_func hP hfn]
            congr 2
            apply Array.ext'
            simp
          unfold Oper.wp
          rw [hexec, Oper.upon_enter]
          refine (hC hI.gok).mono ?_
          rintro e w' ⟨v, F', ncl, rfl, hE, hlt, hnew, hval, hn1, hn2, _⟩
          obtain ⟨_, hd, hr⟩ := hval.resolve_right (fun h => by simp at h)
          have hE' : Ext (took cls (stake E ⟨dst, .call ⟨.value f, args, ats⟩, ty, pos, after, guard⟩)) F w F' w' := hE.weaken fun b _ h => absurd h (S_zero _ b)
          exact hK _ _ ⟨F', inv_value hI hin hE' hlt (fun b o h => (hnew b o h).imp id fun h => .inl (h.resolve_right (C_zero _ b))) (hd _ _) hr (fun i g h => ⟨(hn1 _ i g h).1, .inl ((hn1 _ i g h).2.1.resolve_right (C_zero _ g))⟩) (fun i i' g h h' => (hn2 _ _ _ _ _ h h').2)⟩
        · cases hv
      · cases hv
    · cases hv
  | _ => simp [sval] at hv
end
end Go.Av
