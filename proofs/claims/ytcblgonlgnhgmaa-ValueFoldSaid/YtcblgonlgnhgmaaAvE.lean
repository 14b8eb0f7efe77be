/- The evaluator over abstract values: what a function of a program hands back, by values alone. Over any program; no conditions. -/
import Derived.Test.YtcblgonlgnhgmaaAvD
set_option linter.unusedVariables false
set_option linter.unusedSimpArgs false
namespace Go.Av
open Go.RowKit
variable [Gs]

/-- What may be done with a list that a slot holds: nothing; append to its row (of elements of this type), which nobody else appends to; append, which makes a new row, as it has no room. -/
inductive Room where
  | no
  | own (e : TypeId)
  | full
  deriving Inhabited, DecidableEq

structure Bx where
  gen : Nat
  cells : List D
  deriving Inhabited

structure St where
  slot : Nat → D
  room : Nat → List Room
  box : Nat → Option Bx
  ctr : Nat

def upd {α : Type} (f : Nat → α) (k : Nat) (v : α) (j : Nat) : α := if j = k then v else f j
def St.put (s : St) : Option Tmp → D → List Room → St
  | none, _, _ => s
  | some k, d, r => { s with slot := upd s.slot k d, room := upd s.room k r }
/-- The right to append is taken from a slot; of a tuple: from one part. -/
def St.demote (s : St) : Option (Tmp × Option Nat) → St
  | none => s
  | some (k, none) => { s with room := upd s.room k [] }
  | some (k, some i) => { s with room := upd s.room k ((s.room k).set i .no) }
def St.setBox (s : St) (k : Nat) (b : Option Bx) : St := { s with box := upd s.box k b }

/-- A constant's cell. -/
def cval1 : Value → D
  | .bool b => .bool b
  | .int k n => .int k n
  | .string s => .str s.data.toList
  | .slice none 0 0 => .list []
  | .pointer none => .con (.pointer none)
  | .nilIface => .con .nilIface
  | .nilFunc => .con .nilFunc
  | .map none => .con (.map none)
  | _ => .bad
def cval : Value → D
  | .agg vs => if vs.toList.all (·.oneCell') then .agg (vs.toList.map cval1) else .bad
  | v => cval1 v

def get (slot : Nat → D) : Operand → D
  | .tmp t => slot t
  | .const v => cval v
  | .global g => Gs.gl g
  | .func f => .func (.func f) [] []
def croom : Operand → List Room
  | .const (.slice none 0 0) => [.full]
  | _ => []

/-- Is a type's value a row of cells; how many cells. -/
def aggOf (P : Program) (t : TypeId) : Option Bool := (P.underlying t).map fun | .struct _ | .array _ _ => true | _ => false
def sizeT (P : Program) (t : TypeId) : Option Nat := (P.info? t).map (·.size)
def dpart (P : Program) (t : TypeId) (cs : List D) (off : Nat) : Option D :=
  match aggOf P t, sizeT P t with
  | some true, some n => if off + n ≤ cs.length then some (.agg ((cs.drop off).take n)) else none
  | some false, _ => cs[off]?
  | _, _ => none
/-- A value that may stand in a cell, or in a row of cells, and holds no pointer to a variable. -/
def leafN : Nat → D → Bool
  | _, .bool _ | _, .int _ _ | _, .str _ | _, .con _ | _, .list _ | _, .fix _ _ => true
  | n + 1, .iface _ d => leafN n d
  | n + 1, .func _ f c => f.all (leafN n) && c.all (leafN n)
  | _, _ => false
def leaf (d : D) : Bool := leafN 6 d
def pureB : D → Bool
  | .agg cs => cs.all leaf
  | d => leaf d

def dIntBin (op : BinOp) (k : IntKind) (a b : Int) : Option D :=
  match op with
  | .add => some (.int k (k.wrap (a + b)))
  | .sub => some (.int k (k.wrap (a - b)))
  | .mul => some (.int k (k.wrap (a * b)))
  | .quo => if b = 0 then none else some (.int k (k.wrap (a.tdiv b)))
  | .rem => if b = 0 then none else some (.int k (a.tmod b))
  | .and => some (.int k (k.wrap ((BitVec.ofInt k.bits a &&& BitVec.ofInt k.bits b).toNat)))
  | .or => some (.int k (k.wrap ((BitVec.ofInt k.bits a ||| BitVec.ofInt k.bits b).toNat)))
  | .xor => some (.int k (k.wrap ((BitVec.ofInt k.bits a ^^^ BitVec.ofInt k.bits b).toNat)))
  | .andNot => some (.int k (k.wrap ((BitVec.ofInt k.bits a &&& ~~~ BitVec.ofInt k.bits b).toNat)))
  | .eql => some (.bool (a == b))
  | .neq => some (.bool (a != b))
  | .lss => some (.bool (decide (a < b)))
  | .leq => some (.bool (decide (a ≤ b)))
  | .gtr => some (.bool (decide (a > b)))
  | .geq => some (.bool (decide (a ≥ b)))
  | _ => none
def dShift (op : BinOp) (k : IntKind) (a b : Int) : Option D :=
  if b < 0 then none else
  match op with
  | .shl => some (.int k (k.wrap (a * 2 ^ (min b.toNat k.bits))))
  | .shr => some (.int k (a.fdiv (2 ^ (min b.toNat k.bits))))
  | _ => none
def dStrBin (op : BinOp) (a b : List UInt8) : Option D :=
  match op with
  | .add => if a.length + b.length ≤ 1099511627776 then some (.str (a ++ b)) else none
  | .eql => some (.bool (a == b))
  | .neq => some (.bool (!(a == b)))
  | .lss => some (.bool (Op.bytesLess a b))
  | .leq => some (.bool (Op.bytesLess a b || a == b))
  | .gtr => some (.bool (!(Op.bytesLess a b || a == b)))
  | .geq => some (.bool (!Op.bytesLess a b))
  | _ => none
def isFixed : D → Bool
  | .fix _ _ | .ptr _ _ _ => true
  | _ => false
/-- Nil against a pointer, nil against an interface value. -/
def dNilEq (lit : Bool) : D → D → Option Bool
  | .con .nilIface, .con .nilIface => if lit then some true else none
  | .con (.pointer none), .con (.pointer none) => some true
  | .con (.pointer none), .fix _ _ | .fix _ _, .con (.pointer none) | .con (.pointer none), .ptr _ _ _ | .ptr _ _ _, .con (.pointer none) => some false
  | .con .nilIface, .iface _ _ | .iface _ _, .con .nilIface => some false
  | .con .nilFunc, .func _ _ _ | .func _ _ _, .con .nilFunc => some false
  | _, _ => none
def shapeOk (P : Program) (t : TypeId) : D → D → Bool
  | .con (.pointer none), _ | _, .con (.pointer none) => (match P.underlying t with | some (.pointer _) => true | _ => false)
  | .con .nilFunc, _ | _, .con .nilFunc => (match P.underlying t with | some (.func _ _ _) => true | _ => false)
  | _, _ => (match P.underlying t with | some (.interface _) => true | _ => false)
def dbin (P : Program) (lit : Bool) (op : BinOp) (t : TypeId) (x y : D) : Option D :=
  match op, x, y with
  | .shl, .int k a, .int _ b => dShift .shl k a b
  | .shr, .int k a, .int _ b => dShift .shr k a b
  | op, .int k a, .int k' b => if k = k' then dIntBin op k a b else none
  | op, .str a, .str b => dStrBin op a b
  | .eql, .bool a, .bool b => if (match P.underlying t with | some .bool => true | _ => false) then some (.bool (a == b)) else none
  | .neq, .bool a, .bool b => if (match P.underlying t with | some .bool => true | _ => false) then some (.bool (!(a == b))) else none
  | .eql, x, y => if shapeOk P t x y then (dNilEq lit x y).map .bool else none
  | .neq, x, y => if shapeOk P t x y then (dNilEq lit x y).map fun b => .bool (!b) else none
  | _, _, _ => none
def dun (op : UnOp) (x : D) : Option D :=
  match op, x with
  | .neg, .int k n => some (.int k (k.wrap (0 - n)))
  | .not, .bool b => some (.bool (!b))
  | _, _ => none
/-- The bytes that a list of bytes is. -/
def bytesOf : List D → Option (List UInt8)
  | [] => some []
  | .int .u8 n :: r => (bytesOf r).map (UInt8.ofNat n.toNat :: ·)
  | _ => none
def dconv (P : Program) (src dst : TypeId) (x : D) : Option D :=
  match P.underlying src, P.underlying dst, x with
  | some _, some (.int k), .int _ n => some (.int k (k.wrap n))
  | some _, some .string, .str l => some (.str l)
  | some (.slice e), some .string, .list es => (match P.underlying e with | some (.int .u8) => (bytesOf es).map .str | _ => none)
  | some _, some (.slice e), .str l => (match P.underlying e with | some (.int .u8) => some (.list (l.map fun b => .int .u8 b.toNat)) | _ => none)
  | _, _, _ => none
def fieldOf (P : Program) (s : TypeId) (i : Nat) : Option Field := (P.underlying s).bind fun | .struct fs => fs[i]? | _ => none
def dfieldAddr (P : Program) (s : TypeId) (x : D) (i : Nat) : Option D :=
  match fieldOf P s i with
  | none => none
  | some f => match sizeT P f.type with
    | none | some 0 => none
    | some _ => match x with
      | .fix d off => some (.fix d (off + f.offset))
      | .ptr k g off => some (.ptr k g (off + f.offset))
      | _ => none
def dfield (P : Program) (s : TypeId) (x : D) (i : Nat) : Option D :=
  match fieldOf P s i, x with
  | some f, .agg cs => dpart P f.type cs f.offset
  | _, _ => none
def elemT (P : Program) (t : TypeId) : Option TypeId := (P.underlying t).bind fun | .slice e => some e | _ => none
def dindexAddr (P : Program) (t : TypeId) (x i : D) : Option D :=
  match elemT P t, x, i with
  | some e, .list es, .int _ n => (match sizeT P e with
    | some sz => if 0 ≤ n ∧ n < es.length then (if (dcells (es.getD n.toNat .bad)).length = sz then some (.fix (es.getD n.toNat .bad) 0) else none) else none
    | none => none)
  | some e, .row k g m sz _, .int _ n => if 0 ≤ n ∧ n < m ∧ sizeT P e = some sz then some (.ptr k g (n.toNat * sz)) else none
  | _, _, _ => none
def dindex (P : Program) (t : TypeId) (x i : D) : Option D :=
  match P.underlying t, x, i with
  | some .string, .str l, .int _ n => if 0 ≤ n ∧ n < l.length then some (.int .u8 ((l.getD n.toNat 0).toNat)) else none
  | _, _, _ => none
def dbound (x : D) (hi : Nat) : Option Nat :=
  match x with
  | .int _ n => if 0 ≤ n ∧ n ≤ hi then some n.toNat else none
  | _ => none
/-- Elements of so many cells each: asked of the first one. -/
def szOk (sz : Nat) : List D → Bool
  | [] => true
  | e :: _ => (dcells e).length == sz
def dopt (o : Option D) (y z : Nat) : Option Nat := match o with | some d => dbound d y | none => some z
def dslice (P : Program) (t : TypeId) (x : D) (lo hi mx : Option D) : Option D :=
  match P.underlying t, x, mx with
  | some (.slice e), .list es, none => if (match sizeT P e with | some sz => szOk sz es | none => false) = true then
    (dopt hi es.length es.length).bind fun h => (dopt lo h 0).map fun l => .list ((es.take h).drop l) else none
  | some .string, .str s, none => (dopt hi s.length s.length).bind fun h => (dopt lo h 0).map fun l => .str ((s.take h).drop l)
  | _, _, _ => none
/-- A value that may be laid into cells. -/
def okPart : D → Bool
  | .bad | .tuple _ => false
  | _ => true
/-- The parts of a struct, laid over its zero cells. -/
def dfill (place : Nat → Option (Nat × Nat)) : List D → List (Nat × D) → Option (List D)
  | cells, [] => some cells
  | cells, (i, d) :: rest => match place i with
    | none => none
    | some (off, size) => if (dcells d).length = size ∧ off + size ≤ cells.length ∧ okPart d = true then dfill place (cells.take off ++ dcells d ++ cells.drop (off + size)) rest else none
def zeroCells : Value → Option (List D)
  | .agg vs => if vs.toList.all (·.oneCell') then some (vs.toList.map cval1) else none
  | .tuple _ => none
  | v => some [cval1 v]
def zeroOf (P : Program) (t : TypeId) : Option (List D) := (P.info? t).bind fun i => i.zero.bind zeroCells
def places (P : Program) (fs : Array Field) : Option (List (Nat × Nat)) := fs.toList.mapM fun f => (P.info? f.type).map fun i => (f.offset, i.size)
def dbuild (P : Program) (t : TypeId) (parts : List (Nat × D)) : Option D :=
  match P.underlying t, zeroOf P t with
  | some (.struct fs), some zero => (places P fs).bind fun ps => (dfill (ps[·]?) zero parts).map .agg
  | _, _ => none
/-- A literal of a slice, each element of it written out, in order. -/
def dparts : Nat → Nat → List (Nat × D) → Option (List D)
  | _, _, [] => some []
  | k, sz, (i, d) :: rest => if i = k ∧ (dcells d).length = sz ∧ pureB d = true then (dparts (k + 1) sz rest).map (d :: ·) else none
def dbuildSlice (P : Program) (t : TypeId) (n : Nat) (parts : List (Nat × D)) : Option D :=
  match elemT P t with
  | none => none
  | some e => match sizeT P e with
    | none | some 0 => none
    | some sz => if parts.length = n ∧ n * sz ≤ 65536 ∧ ((P.info? e).bind (·.zero)).isSome = true then (dparts 0 sz parts).map .list else none
def infoOk (i : TypeInfo) : Bool := decide (i.bytes ≤ 4096) && decide (0 < i.size) && (match i.zero with | some z => z.cells.size == i.size | none => false)
def dmake (P : Program) (t : TypeId) (l c : D) : Option TypeId :=
  match elemT P t, l, c with
  | some e, .int _ 0, .int _ n => (match P.info? e with | some i => if 0 ≤ n ∧ n ≤ 1073741824 ∧ infoOk i = true then some e else none | none => none)
  | _, _, _ => none
/-- Append: lists up to 2^30 elements. -/
def dappend (P : Program) (ts : Array TypeId) (x y : D) (r : List Room) : Option (D × TypeId) :=
  match ts.toList with
  | [t, u] => if t = u then (match elemT P t, x, y with
    | some e, .list es, .list fs => (match P.info? e with
      | some i => if es.length + fs.length ≤ 1073741824 ∧ infoOk i = true ∧
          szOk i.size fs = true ∧ szOk i.size es = true ∧ (r = [.full] ∨ r = [.own e]) then some (.list (es ++ fs), e) else none
      | none => none)
    | _, _, _ => none) else none
  | _ => none
def dlen (P : Program) (ts : Array TypeId) (x : D) : Option D :=
  match (ts[0]?).bind P.underlying, x with
  | some (.slice _), .list es => some (.int .i64 es.length)
  | some (.slice _), .row _ _ n _ _ => some (.int .i64 n)
  | some .string, .str l => some (.int .i64 l.length)
  | _, _ => none
def dminmax (mx : Bool) : List D → Option D
  | [.int k a, .int _ b] => some (.int k (if mx then (if b > a then b else a) else (if b < a then b else a)))
  | _ => none

def eats (E : List Tmp) : Option Tmp → Bool
  | some d => E.contains d
  | none => false
/-- Which slots' rights are fed on: by an append of its first argument, by an extraction, by an assignment to a result. -/
def eaters (res : List Tmp) (ops : List Oper) : List Tmp := ops.filterMap fun o => match o.op with
  | .call { callee := .builtin .append, args, .. } => (match (args[0]? : Option Operand) with | some (.tmp t) => some t | _ => none)
  | .extract (.tmp t) _ => some t
  | .assign (.tmp t) => if eats res o.dst then some t else none
  | _ => none
def stake (E : List Tmp) (o : Oper) : Option (Tmp × Option Nat) :=
  match o.op with
  | .assign (.tmp t) => some (t, none)
  | .move (.tmp t) => if eats E o.dst then some (t, none) else none
  | .extract (.tmp t) i => some (t, some i)
  | .call { callee := .builtin .append, args, .. } => (match (args[0]? : Option Operand) with | some (.tmp t) => some (t, none) | _ => none)
  | _ => none
def St.taken (s : St) : Option (Tmp × Option Nat) → List Room
  | none => []
  | some (t, none) => s.room t
  | some (t, some i) => (match (s.room t)[i]? with | some r => [r] | none => [])

abbrev Call := FuncId → List D → List Bx → Option (D × List Room × List Bx)

def isLit : Operand → Bool
  | .const _ => true
  | _ => false
/-- What a call hands back that makes no variable for its caller. -/
def plainR : Option (D × List Room × List Bx) → Option (D × List Room)
  | some (d, r, []) => some (d, r)
  | _ => none
/-- The value of an operation that turns no variable, and what may be done with it. -/
def sval (P : Program) (call : Call) (slot : Nat → D) (box : Nat → Option Bx) (rm : List Room) (o : Oper) : Option (D × List Room) :=
  let rd := get slot
  let ok (d : Option D) : Option (D × List Room) := d.map fun d => (d, [])
  match o.op with
  | .move x | .assign x => some (rd x, match x with | .tmp _ => rm | x => croom x)
  | .pick c a b => match rd c with | .bool t => some (if t then rd a else rd b, []) | _ => none
  | .load t a => match rd a with
    | .fix d off => ok (dpart P t (dcells d) off)
    | .ptr k g off => (match box k with | some bx => if bx.gen = g then ok (dpart P t bx.cells off) else none | none => none)
    | _ => none
  | .nilCheck x => (match rd x with | .fix d off => some (.fix d off, []) | .ptr k g off => some (.ptr k g off, []) | _ => none)
  | .binOp op t x y _ => ok (dbin P (isLit x || isLit y) op t (rd x) (rd y))
  | .unOp op _ x => ok (dun op (rd x))
  | .convert src dst x => ok (dconv P src dst (rd x))
  | .makeInterface t x => (match P.underlying t with | some (.interface _) | none => none | some _ => some (.iface t (rd x), []))
  | .makeFunc fn f c => some (.func fn (f.toList.map rd) (c.toList.map rd), [])
  | .makeSlice t l c => (dmake P t (rd l) (rd c)).map fun e => (.list [], [.own e])
  | .slice t x lo hi mx => ok (dslice P t (rd x) (lo.map rd) (hi.map rd) (mx.map rd))
  | .fieldAddr s x i => ok (dfieldAddr P s (rd x) i)
  | .field s x i => ok (dfield P s (rd x) i)
  | .indexAddr t x i => ok (dindexAddr P t (rd x) (rd i))
  | .index t x i => ok (dindex P t (rd x) (rd i))
  | .extract x i => (match rd x with | .tuple cs => (match cs[i]? with | some d => some (d, rm) | none => none) | _ => none)
  | .build t ps => ok (dbuild P t (ps.toList.map fun p => (p.1, rd p.2)))
  | .buildSlice t n ps => (dbuildSlice P t n (ps.toList.map fun p => (p.1, rd p.2))).map fun d => (d, [.full])
  | .call c => (match c.callee with
    | .builtin .append => (match c.args.toList with
      | [x, y] => (dappend P c.argTypes (rd x) (rd y) (match x with | .tmp _ => rm | x => croom x)).map fun (d, e) => (d, [.own e])
      | _ => none)
    | .builtin .len => (match c.args.toList with | [x] => ok (dlen P c.argTypes (rd x)) | _ => none)
    | .builtin .min => ok (dminmax false (c.args.toList.map rd))
    | .builtin .max => ok (dminmax true (c.args.toList.map rd))
    | .value f => (match rd f with
      | .func (.func g) first captured =>
        if (first ++ c.args.toList.map rd ++ captured).all pureB then plainR (call g (first ++ c.args.toList.map rd ++ captured) []) else none
      | _ => none)
    | _ => none)
  | _ => none

/-- Pointers to variables among the arguments become pointers to the callee's own given variables. -/
def pid (i : Nat) : Nat := 1000000 + i
def stepBox (P : Program) (o : Oper) (s : St) : Option St :=
  let rd := get s.slot
  match o.op with
  | .alloc t => (match o.dst, zeroOf P t with
    | some k, some z => if z.all leaf = true ∧ k < 1000000 then some ({ s.setBox k (some ⟨s.ctr, z⟩) with ctr := s.ctr + 1 }.put o.dst (.ptr k s.ctr 0) []) else none
    | _, _ => none)
  | .box t x => (match o.dst, sizeT P t with
    | some k, some n => if (dcells (rd x)).length = n ∧ pureB (rd x) = true ∧ k < 1000000 then some ({ s.setBox k (some ⟨s.ctr, dcells (rd x)⟩) with ctr := s.ctr + 1 }.put o.dst (.ptr k s.ctr 0) []) else none
    | _, _ => none)
  | .store t a x => (match rd a, sizeT P t with
    | .ptr k g off, some n => (match s.box k with
      | some bx => if bx.gen = g ∧ (dcells (rd x)).length = n ∧ off + n ≤ bx.cells.length ∧ pureB (rd x) = true then
          some ((s.setBox k (some ⟨g, bx.cells.take off ++ dcells (rd x) ++ bx.cells.drop (off + n)⟩)).put o.dst (.tuple []) []) else none
      | none => none)
    | _, _ => none)
  | _ => none
/-- Calls that are handed a pointer to one variable as their first argument, and pure values besides. -/
def stepPtr (call : Call) (o : Oper) (s : St) : Option St :=
  let rd := get s.slot
  match o.op with
  | .call c => (match c.callee, c.args.toList.map rd with
    | .value (.func g), .ptr k gn off :: rest => (match s.box k with
      | some bx => if bx.gen = gn ∧ rest.all pureB = true then (match call g (.ptr (pid 0) 0 off :: rest) [⟨0, bx.cells⟩] with
          | some (d, r, [b']) => some ((s.setBox k (some ⟨gn, b'.cells⟩)).put o.dst d r)
          | _ => none) else none
      | none => none)
    | _, _ => none)
  | _ => none
/-- A variable that a callee made, handed to its caller. -/
def newR (o : Oper) (s : St) : Option (D × List Room × List Bx) → Option St
  | some (.ptr _ _ _, _, [b]) => (match o.dst with
    | some t => if t < 1000000 then some ({ s.setBox t (some ⟨s.ctr, b.cells⟩) with ctr := s.ctr + 1 }.put (some t) (.ptr t s.ctr 0) []) else none
    | none => none)
  | _ => none
def stepNew (call : Call) (o : Oper) (s : St) : Option St :=
  let rd := get s.slot
  match o.op with
  | .call c => (match c.callee with
    | .value f => (match rd f with
      | .func (.func g) first captured => if (first ++ c.args.toList.map rd ++ captured).all pureB then newR o s (call g (first ++ c.args.toList.map rd ++ captured) []) else none
      | _ => none)
    | _ => none)
  | _ => none
def stepS (P : Program) (call : Call) (E : List Tmp) (o : Oper) (s : St) : Option St :=
  match sval P call s.slot s.box (s.taken (stake E o)) o with
  | some (d, r) => some ((s.demote (stake E o)).put o.dst d r)
  | none => none
def dwanted (ops : List Oper) (s : St) (o : Oper) : Option Bool :=
  match o.guard with
  | none => some true
  | some (j, want) => match (ops[j]?).bind (·.dst) with
    | none => none
    | some t => match s.slot t with
      | .bool b => some (b == want)
      | .tuple [] => some false
      | _ => none
def inB (n : Nat) (o : Oper) : Bool := match o.dst with | some k => k < n | none => true
def step (P : Program) (call : Call) (n : Nat) (E : List Tmp) (ops : List Oper) (o : Oper) (s : St) : Option St :=
  if inB n o then
    match dwanted ops s o with
    | none => none
    | some false => some (s.put o.dst (.tuple []) [])
    | some true => match o.op with
      | .alloc _ | .box _ _ | .store _ _ _ => stepBox P o s
      | .call c => (match (c.args.toList.map (get s.slot)) with
        | .ptr _ _ _ :: _ => stepPtr call o s
        | _ => (stepS P call E o s).orElse fun _ => stepNew call o s)
      | _ => stepS P call E o s
  else none
/-- A row that is written to later: a variable of many cells. -/
def madeRow (s : St) (k : Nat) (cells : List D) (m sz : Nat) (ag : Bool) : St := { s.setBox k (some ⟨s.ctr, cells⟩) with ctr := s.ctr + 1 }.put (some k) (.row k s.ctr m sz ag) []
def stepRow (P : Program) (n : Nat) (o : Oper) (s : St) : Option St :=
  let rd := get s.slot
  match o.guard, o.dst with
  | none, some k => if k < n ∧ k < 1000000 then (match o.op with
    | .convert src dst x => (match P.underlying dst, dconv P src dst (rd x) with
      | some (.slice _), some (.list es) => some (madeRow s k es es.length 1 false)
      | _, _ => none)
    | .makeSlice t l c => (match elemT P t, rd l, rd c with
      | some e, .int kl m, .int kc m' => (match P.info? e, zeroOf P e, aggOf P e with
        | some i, some z, some ag => if kl = .i64 ∧ kc = .i64 ∧ 0 ≤ m ∧ m ≤ m' ∧ m' ≤ 1073741824 ∧ infoOk i = true ∧ z.length = i.size ∧ z.all leaf = true then some (madeRow s k (List.replicate m.toNat z).flatten m.toNat i.size ag) else none
        | _, _, _ => none)
      | _, _, _ => none)
    | _ => none) else none
  | _, _ => none
def rowElem (ag : Bool) (c : List D) : D := if ag then .agg c else c.headD .bad
def rowList (sz : Nat) (ag : Bool) : Nat → List D → List D
  | 0, _ => []
  | n + 1, cs => rowElem ag (cs.take sz) :: rowList sz ag n (cs.drop sz)
def frzD (k g : Nat) (cells : List D) : D → D
  | .row k' g' n sz ag => if k' = k ∧ g' = g then (if n * sz ≤ cells.length ∧ 0 < sz ∧ (ag = true ∨ sz = 1) then .list (rowList sz ag n cells) else .bad) else .row k' g' n sz ag
  | d => d
/-- A row that is written to no more: from here on it reads as its list. -/
def St.freeze (s : St) (t : Tmp) : St := match s.slot t with
  | .row k g _ _ _ => (match s.box k with
    | some bx => if bx.gen = g ∧ k < 1000000 then { s with box := upd s.box k none, slot := fun j => frzD k g bx.cells (s.slot j) } else s
    | none => s)
  | _ => s
def St.frz (s : St) : List Tmp → St
  | [] => s
  | t :: l => (s.freeze t).frz l
def runOps (P : Program) (call : Call) (n : Nat) (E : List Tmp) (ops : List Oper) : List Oper → St → Option St
  | [], s => some s
  | o :: r, s => (if Gs.rowAt o then stepRow P n o s else step P call n E ops o s).bind (runOps P call n E ops r)

/-- The variable that a drawn region makes, if it makes one. -/
def isAlloc (o : Oper) : Bool := match o.op with | .alloc _ => true | _ => false
def allocKey (ops : List Oper) : Option Tmp := (ops.find? isAlloc).bind (·.dst)
def oneAlloc (ops : List Oper) : Bool := decide ((ops.filter isAlloc).length ≤ 1)
/-- It is made, or written whole, by this operation. -/
def isLocal (ak : Option Tmp) (o : Oper) : Bool := match o.op with
  | .alloc _ => true
  | .store _ (.tmp k) _ => ak == some k
  | _ => false
def loadsOwn (ak : Option Tmp) (slot : Nat → D) (o : Oper) : Bool := match o.op with
  | .load _ a => (match get slot a with | .ptr k _ _ => ak == some k | _ => false)
  | _ => false
def ptrAt (slot : Nat → D) (k : Nat) : Bool := match slot k with | .ptr k' _ _ => k' == k | _ => false
/-- A step whose place among others is free: it turns no variable, but for the one that the region makes. -/
def stepD (P : Program) (call : Call) (n : Nat) (E : List Tmp) (ops : List Oper) (o : Oper) (s : St) : Option St :=
  if inB n o then
    match dwanted ops s o with
    | none => none
    | some false => if isLocal (allocKey ops) o then none else some (s.put o.dst (.tuple []) [])
    | some true => match o.op with
      | .alloc _ => if allocKey ops = o.dst then stepBox P o s else none
      | .box _ _ => none
      | .store _ (.tmp k) _ => if allocKey ops = some k ∧ o.dst = none ∧ ptrAt s.slot k = true then stepBox P o s else none
      | .store _ _ _ => none
      | .load _ _ => if loadsOwn (allocKey ops) s.slot o then none else stepS P call E o s
      | .call c => (match (c.args.toList.map (get s.slot)) with
        | .ptr _ _ _ :: _ => none
        | _ => stepS P call E o s)
      | _ => stepS P call E o s
  else none
def runD (P : Program) (call : Call) (n : Nat) (E : List Tmp) (ops : List Oper) : List Oper → St → Option St
  | [], s => some s
  | o :: r, s => (stepD P call n E ops o s).bind (runD P call n E ops r)
def isStore (ops : List Oper) (o : Oper) : Bool := match o.op with | .store _ _ _ => !isLocal (allocKey ops) o | _ => false
def edge (o : Oper) (i : Nat) : Bool := o.after.any fun e => Region.binds .any e && e.on == i
/-- Which slots an operation looks at. -/
def looks (ops : List Oper) (o : Oper) : List Tmp :=
  (o.op.operands.toList.filterMap fun | .tmp t => some t | _ => none) ++ (match o.guard with | some (g, _) => ((ops[g]?).bind (·.dst)).toList | none => [])
def optNe : Option Tmp → Option Tmp → Bool
  | some a, some b => a != b
  | _, _ => true
/-- Two operations that may change places. -/
def indep (E : List Tmp) (ops : List Oper) (x y : Oper) : Bool :=
  (match x.dst with | some d => !(looks ops y).contains d | none => true) && (match y.dst with | some d => !(looks ops x).contains d | none => true) && optNe x.dst y.dst &&
  optNe ((stake E x).map (·.1)) ((stake E y).map (·.1)) && !(isLocal (allocKey ops) x && isLocal (allocKey ops) y)
def drawOk (E : List Tmp) (ops : List Oper) (k : Nat) : Bool :=
  oneAlloc ops && (List.range k).all fun j => match ops[j]? with
    | none => true
    | some oj => (oj.after.all fun e => !Region.binds .any e || decide (e.on < j)) && (List.range j).all fun i => match ops[i]? with
      | none => true
      | some oi => edge oj i || indep E ops oi oj
/-- A region that draws its order: no variable turns, but by a store at its end, and the one that it makes. -/
def runDraw (P : Program) (call : Call) (n : Nat) (E : List Tmp) (ops : List Oper) (s : St) : Option St :=
  match ops.getLast? with
  | none => some s
  | some o => if isStore ops o then
      (if drawOk E ops (ops.length - 1) && (o.after.all fun e => !Region.binds .any e || decide (e.on < ops.length - 1)) && (List.range (ops.length - 1)).all (edge o) then
        (runD P call n E ops (ops.take (ops.length - 1)) s).bind (step P call n E ops o) else none)
    else if drawOk E ops ops.length then runD P call n E ops ops s else none
inductive X where
  | normal
  | exit (id : Nat)
  | ret
  deriving DecidableEq
def aloop (body : St → Option (X × St)) : Nat → St → Option (X × St)
  | 0, _ => none
  | m + 1, s => match body s with
    | some (.normal, s') => aloop body m s'
    | r => r
def acode (P : Program) (call : Call) (N n : Nat) (res : List Tmp) : Code → St → Option (X × St)
  | .skip, s => some (.normal, s)
  | .region _ ops draw, s => (if draw then runDraw P call n (eaters res ops.toList) ops.toList (s.frz (Gs.frzAt ops.toList)) else runOps P call n (eaters res ops.toList) ops.toList ops.toList (s.frz (Gs.frzAt ops.toList))).map fun s => (.normal, s)
  | .seq a b, s => match acode P call N n res a s with
    | some (.normal, s') => acode P call N n res b s'
    | r => r
  | .cond c a b, s => match get s.slot c with
    | .bool true => acode P call N n res a s
    | .bool false => acode P call N n res b s
    | _ => none
  | .block id b, s => match acode P call N n res b s with
    | some (.exit i, s') => if i = id then some (.normal, s') else some (.exit i, s')
    | r => r
  | .loop b, s => aloop (acode P call N n res b) N s
  | .exit id, s => some (.exit id, s)
  | .ret, s => some (.ret, s)
  | _, _ => none
def rvar (P : Program) (s : St) : ResultVar → Option (D × List Room)
  | .tmp t => some (s.slot t, (s.room t).take 1)
  | .cell a t => match s.slot a with
    | .ptr k g off => (match s.box k with | some bx => if bx.gen = g then (dpart P t bx.cells off).map (·, [.no]) else none | none => none)
    | _ => none
def room1 : List Room → Room
  | [] => .no
  | r :: _ => r
def rvars (P : Program) (s : St) : List ResultVar → Option (List (D × Room))
  | [] => some []
  | v :: r => match rvar P s v, rvars P s r with
    | some (d, m), some l => if pureB d = true then some ((d, room1 m) :: l) else none
    | _, _ => none
def resTmps (fn : Func) : List Tmp := fn.results.toList.filterMap fun | .tmp t => some t | _ => none
def noTwice : List Nat → Bool
  | [] => true
  | x :: r => !r.contains x && noTwice r
def finish (P : Program) (fn : Func) (s : St) : Option (D × List Room) :=
  if noTwice (resTmps fn) = false then none else
  match rvars P s fn.results.toList with
  | some [(d, r)] => some (d, [r])
  | some l => some (.tuple (l.map (·.1)), l.map (·.2))
  | none => none
def entry (args : List D) (pbs : List Bx) : St :=
  { slot := fun j => args.getD j (.tuple []), room := fun _ => [], box := fun k => if 1000000 ≤ k then pbs[k - 1000000]? else none, ctr := 1 }
def nid : Nat := 2000000
/-- A body that hands back a variable of its own. -/
def finishNew (fn : Func) (s : St) : Option Bx :=
  match fn.results.toList with
  | [.tmp t] => (match s.slot t with
    | .ptr k g 0 => if k < 1000000 then (match s.box k with | some bx => if bx.gen = g then some ⟨0, bx.cells⟩ else none | none => none) else none
    | _ => none)
  | _ => none
def leaving (P : Program) (fn : Func) (pbs : List Bx) : Option (X × St) → Option (D × List Room × List Bx)
  | some (.normal, s) | some (.ret, s) => (match finish P fn s with
    | some (d, r) => some (d, r, (List.range pbs.length).map fun i => (s.box (pid i)).getD default)
    | none => (finishNew fn s).map fun b => (.ptr nid 0 0, [], ((List.range pbs.length).map fun i => (s.box (pid i)).getD default) ++ [b]))
  | _ => none
/-- 'ext': calls that are known by other means. -/
def aev (P : Program) (ext : Call) : Nat → Call
  | 0, _, _, _ => none
  | N + 1, f, args, pbs => match ext f args pbs with
    | some r => some r
    | none => match P.funcs[f]? with
      | none => none
      | some fn => match fn.body with
        | none => none
        | some c => leaving P fn pbs (acode P (aev P ext N) N (max args.length fn.ntmps) (resTmps fn) c (entry args pbs))
def noExt : Call := fun _ _ _ => none
end Go.Av
