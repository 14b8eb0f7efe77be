/- The evaluator, in one text: over any program; no conditions but those that each law names. -/
import Derived.RangeFuncNested
import Derived.RangeFuncBound
import Derived.RangeFuncCalls
import Derived.RangeFuncLeaves
import Derived.RangeFuncFrom
import Derived.Shelf.Abstract
import Derived.Shelf.RegionOpen
import Derived.WalkKit
import Derived.OwnWalkIn
import Derived.TacticsInMore
import Derived.LoopNIn
import Derived.LoopIn
import Derived.Test.YtcogfddcdpgpkaaGreatDoorProg
import Derived.Test.YtcogfddcdpgpkaaGreatDoorAvb
import Derived.KernelRfl
import GoSem.PinnedTables
import Derived.WalkSpells
import Derived.WalkLawsBesides
import Derived.Lib.Hide
import Derived.Test.YtcogfddcdpgpkaaGreatDoorChecked
import Derived.Deep.RegionLaw
import Derived.Deep.QuietTactic
import Derived.BigQuiet
import Derived.Maps.GroupsBeside
set_option linter.unusedSimpArgs false
set_option linter.unusedVariables false
set_option linter.unusedSectionVars false
namespace Go.Proofs.YtcogfddcdpgpkaaGreatDoor
open Go.Proofs Go.RowKit Go.Shelf
attribute [local go_sem] Oper.semAt_some
structure Sm where
 kind : Int
 ns : Int
 pre : ByteArray
 nm : ByteArray
 op : Int
 tx : ByteArray
 fold : Bool
 mark : Int
 a : Int
 b : Int
 of_ : Option Addr
 n : Nat
 c : Nat
def Sm.cells (s : Sm) : List Value := [.int .i64 s.kind, .int .i64 s.ns, .string s.pre, .string s.nm, .int .i64 s.op, .string s.tx, .bool s.fold, .int .i64 s.mark, .int .i64 s.a, .int .i64 s.b, .slice s.of_ s.n s.c]
def Sm.val (s : Sm) : Value := .agg #[.int .i64 s.kind, .int .i64 s.ns, .string s.pre, .string s.nm, .int .i64 s.op, .string s.tx, .bool s.fold, .int .i64 s.mark, .int .i64 s.a, .int .i64 s.b, .slice s.of_ s.n s.c]
def upto (N : Nat) (k : Nat) : List (Fin N) := (List.finRange N).take k
theorem upto_succ {N k : Nat} (h : k < N) : upto N (k + 1) = upto N k ++ [⟨k, h⟩] := by
 unfold upto
 rw [List.take_succ_eq_append_getElem (by simpa using h)]
 simp
theorem upto_length {N k : Nat} (h : k ≤ N) : (upto N k).length = k := by
 unfold upto
 simp [h]
theorem upto_all (N : Nat) : upto N N = List.finRange N := by
 unfold upto
 rw [List.take_of_length_le (by simp)]
end Go.Proofs.YtcogfddcdpgpkaaGreatDoor
namespace Go.Proofs.YtcogfddcdpgpkaaGreatDoor
open Go.Proofs Go.RowKit Go.Shelf
attribute [local go_sem] Oper.semAt_some
def BoxR (W : World) (B : Nat) (t : TypeId) (C : Array Value) : Prop := W.heap[B]? = some (.cells C t (0, 0))
theorem BoxR.lt {W : World} {B : Nat} {t : TypeId} {C : Array Value} (h : BoxR W B t C) : B < W.heap.size := (Array.getElem?_eq_some_iff.1 h).1
theorem BoxR.cell {W : World} {B : Nat} {t : TypeId} {C : Array Value} (h : BoxR W B t C) (j : Nat) : W.cell? ⟨B, j, none⟩ = C[j]? := by simp [World.cell?, show W.heap[B]? = _ from h]
theorem BoxR.frozen {W : World} {B : Nat} {t : TypeId} {C : Array Value} (h : BoxR W B t C) (j : Nat) : W.frozen? ⟨B, j, none⟩ = false := by simp [World.frozen?, show W.heap[B]? = _ from h]
theorem BoxR.new (W : World) (t : TypeId) (C : Array Value) : BoxR (W.alloc (.cells C t)) W.heap.size t C := World.alloc_heap_new W _
theorem BoxR.kept {W W' : World} {row : Option Nat} {B : Nat} {t : TypeId} {C : Array Value} (h : BoxR W B t C) (hg : W.grownBy W' row) (hne : some B ≠ row) : BoxR W' B t C := (hg.block B h.lt hne).trans h
theorem BoxR.alloc {W : World} {B : Nat} {t : TypeId} {C : Array Value} (h : BoxR W B t C) (o : Obj) : BoxR (W.alloc o) B t C := h.kept (World.grownBy_alloc W o none) (by simp)
theorem BoxR.below {W W' : World} {B n : Nat} {t : TypeId} {C : Array Value} (h : BoxR W B t C) (hb : Below n W W') (hn : B < n) : BoxR W' B t C := (hb.block B hn).trans h
theorem boxR_own {β : Type} (B : Nat) (t : TypeId) (f : β → Array Value) : Own (fun s W => BoxR W B t (f s)) := fun s X Y row hs hg hrow =>
 hs.kept hg (fun e' => by obtain ⟨o, ho, hc⟩ := hrow B e'.symm; rw [show X.heap[B]? = _ from hs] at ho; cases ho; cases hc)
theorem keeps_below {W W' : World} (h : Below W.heap.size W W') : KeepsOthers W W' := by
 refine ⟨h.size, fun b o hb _ => ?_⟩
 exact (h.block b (Array.getElem?_eq_some_iff.1 hb).1).trans hb
end Go.Proofs.YtcogfddcdpgpkaaGreatDoor
set_option maxRecDepth 100000
namespace Go.Proofs.YtcogfddcdpgpkaaGreatDoor
open Go.Proofs Go.RowKit Go.Shelf
def findR (n : Nat) : Code → Option (Array Oper)
 | .region k ops _ => if k == n then some ops else none
 | .seq a b => (findR n a).or (findR n b)
 | .cond _ a b => (findR n a).or (findR n b)
 | .block _ a => findR n a
 | .loop a => findR n a
 | .rangeFunc _ _ a b => (findR n a).or (findR n b)
 | _ => none
noncomputable def ops4 : Array Oper := (Tryz.f48.body.bind (findR 4)).getD #[]
theorem ready_at {listed : Array Bool} {i : Nat} {o : Oper} {ops : Array Oper} (h : i ∈ Region.ready .any ops listed) (ho : ops[i]? = some o) :
  listed.getD i true = false ∧ (o.after.all fun e => !Region.binds .any e || listed.getD e.on false) = true := by
 unfold Region.ready at h
 rw [List.mem_filter] at h
 simpa [ho] using h.2
theorem ready_lt {listed : Array Bool} {i : Nat} {ops : Array Oper} (h : i ∈ Region.ready .any ops listed) : i < ops.size := by
 unfold Region.ready at h
 rw [List.mem_filter] at h
 simpa using h.1
theorem any_inv {F : Fence} {n : Nat} {P : Program} {ops : Array Oper} {Q : Exit → Act → World → Prop} (Inv : Array Bool → Act → World → Prop) (hsz : ∀ listed a w, Inv listed a w → listed.size = ops.size)
  (step : ∀ listed a w i, Inv listed a w → i ∈ Region.ready .any ops listed → wpOpIn F n P ops Q i (fun a' w' => Inv (listed.setIfInBounds i true) a' w') a w)
  (done : ∀ listed a w, Inv listed a w → Region.ready .any ops listed = [] → Q .normal a w) :
  ∀ (fuel : Nat) (listed : Array Bool) (a : Act) (w : World), Inv listed a w → listed.toList.count false ≤ fuel → wpAnyIn F n P .any ops Q fuel listed a w
 | 0, listed, a, w, h, hf => by
  have hr : Region.ready .any ops listed = [] := by
   rw [List.eq_nil_iff_forall_not_mem]
   intro i hi
   have hlt := ready_lt hi
   have h1 := (ready_at (o := ops[i]) hi (Array.getElem?_eq_getElem hlt)).1
   have hl : i < listed.size := by rw [hsz _ _ _ h]; exact hlt
   have h2 : listed[i] = false := by simpa [Array.getD, hl] using h1
   have h3 : false ∈ listed.toList := by rw [← h2]; exact Array.getElem_mem_toList hl
   have := List.count_pos_iff.2 h3
   omega
  exact ⟨hr, done _ _ _ h hr⟩
 | fuel + 1, listed, a, w, h, hf => by
  refine ⟨fun hr => done _ _ _ h hr, fun i hi => ?_⟩
  refine wpOpIn_mono (fun a' w' hI => any_inv Inv hsz step done fuel _ a' w' hI ?_) (step _ _ _ i h hi)
  have hlt := ready_lt hi
  have h1 := (ready_at (o := ops[i]) hi (Array.getElem?_eq_getElem hlt)).1
  have hl : i < listed.size := by rw [hsz _ _ _ h]; exact hlt
  have h2 : listed[i] = false := by simpa [Array.getD, hl] using h1
  have h3 : (listed.setIfInBounds i true).toList.count false + 1 ≤ listed.toList.count false := by
   rw [Array.toList_setIfInBounds, List.count_set (by simpa using hl)]
   have this' : listed.toList[i]'(by simpa using hl) = false := by simpa using h2
   have h3 : false ∈ listed.toList := by rw [← h2]; exact Array.getElem_mem_toList hl
   have := List.count_pos_iff.2 h3
   rw [this']
   simp only [beq_self_eq_true, if_true, show (true == false) = false from rfl, Bool.false_eq_true, if_false]
   omega
  omega

noncomputable def dst4 (i : Nat) : Option Nat := (ops4[i]?).bind (·.dst)
noncomputable def deps4 (i : Nat) : List Nat := ((ops4[i]?).map fun o => (o.after.toList.filter fun e => Region.binds .any e).map (·.on)).getD []
theorem deps_of {listed : Array Bool} {i : Nat} (h : i ∈ Region.ready .any ops4 listed) {d : Nat} (hd : (deps4 i).contains d = true) : listed.getD d false = true := by
 have hlt := ready_lt h
 have h2 := (ready_at (o := ops4[i]) h (Array.getElem?_eq_getElem hlt)).2
 rw [List.contains_iff_mem] at hd
 unfold deps4 at hd
 rw [Array.getElem?_eq_getElem hlt] at hd
 simp only [Option.map_some, Option.getD_some, List.mem_map, List.mem_filter] at hd
 obtain ⟨e, ⟨he, hb⟩, rfl⟩ := hd
 have := (Array.all_eq_true_iff_forall_mem.1 h2) e (by simpa using he)
 simpa [hb] using this
def V4 (B1 B4 : Nat) (x0 x1 x2 y0 y1 y2 : Int) : Nat → Value
 | 11 => .pointer (some ⟨B1, 0, none⟩) | 12 => .int .i64 x0 | 13 => .pointer (some ⟨B4, 0, none⟩) | 14 => .int .i64 y0 | 15 => .int .i64 (wrap64 (x0 + y0))
 | 16 => .pointer (some ⟨B1, 1, none⟩) | 17 => .int .i64 x1 | 18 => .pointer (some ⟨B4, 1, none⟩) | 19 => .int .i64 y1 | 20 => .int .i64 (wrap64 (x1 + y1))
 | 21 => .pointer (some ⟨B1, 2, none⟩) | 22 => .int .i64 x2 | 23 => .pointer (some ⟨B4, 2, none⟩) | 24 => .int .i64 y2 | 25 => .int .i64 (wrap64 (x2 + y2))
 | 26 => .pointer (some ⟨B1, 0, none⟩) | 27 => .pointer (some ⟨B1, 1, none⟩) | 28 => .pointer (some ⟨B1, 2, none⟩)
 | _ => undef
theorem dst_inj : ((List.range 21).all fun i => (List.range 21).all fun j => i == j || (dst4 i).isNone || !(dst4 i == dst4 j)) = true := by kernel_rfl
theorem dst_rng : ((List.range 21).all fun i => match dst4 i with | some d => decide (11 ≤ d) && decide (d < 29) | none => true) = true := by kernel_rfl
theorem BoxR.set {w : World} {B : Nat} {t : TypeId} {C : Array Value} (h : BoxR w B t C) (j : Nat) (v : Value) : BoxR (w.setCell ⟨B, j, none⟩ v) B t (C.setIfInBounds j v) := by
 unfold BoxR at *
 simp [World.setCell, Array.getElem?_modify, h]
structure I4 (n₀ B1 B4 : Nat) (x0 x1 x2 y0 y1 y2 : Int) (W3 : World) (listed : Array Bool) (a : Act) (w : World) : Prop where
 sz : listed.size = 21
 tz : a.tmps.size = 30
 t2 : a.tmps.getD 2 undef = .pointer (some ⟨B1, 0, none⟩)
 t4 : a.tmps.getD 4 undef = .pointer (some ⟨B4, 0, none⟩)
 val : ∀ i d, i < 21 → dst4 i = some d → listed.getD i false = true → a.tmps.getD d undef = V4 B1 B4 x0 x1 x2 y0 y1 y2 d
 cl : ∀ i d, (deps4 i).contains d = true → listed.getD i false = true → listed.getD d false = true
 sum : BoxR w B1 63 #[.int .i64 (if listed.getD 16 false = true then wrap64 (x0 + y0) else x0), .int .i64 (if listed.getD 18 false = true then wrap64 (x1 + y1) else x1), .int .i64 (if listed.getD 20 false = true then wrap64 (x2 + y2) else x2)]
 src : BoxR w B4 63 #[.int .i64 y0, .int .i64 y1, .int .i64 y2]
 ko : KeepsOthers W3 w
 be : Below n₀ W3 w
theorem set_get {listed : Array Bool} {i j : Nat} (h : i < listed.size) : (listed.setIfInBounds i true).getD j false = if j = i then true else listed.getD j false := by
 by_cases hj : j = i
 ·subst hj; simp [Array.getD, h]
 ·rw [if_neg hj]
  simp only [Array.getD_eq_getD_getElem?, Array.getElem?_setIfInBounds_ne (fun e => hj e.symm)]
section
variable {n₀ B1 B4 : Nat} {x0 x1 x2 y0 y1 y2 : Int} {W3 : World} {listed : Array Bool} {a : Act} {w : World}
theorem I4.put (h : I4 n₀ B1 B4 x0 x1 x2 y0 y1 y2 W3 listed a w) {i d : Nat} (hi : i < 21) (hr : i ∈ Region.ready .any ops4 listed) (hd : dst4 i = some d) (h1 : i ≠ 16) (h2 : i ≠ 18) (h3 : i ≠ 20) :
  I4 n₀ B1 B4 x0 x1 x2 y0 y1 y2 W3 (listed.setIfInBounds i true) (a.put (some d) (V4 B1 B4 x0 x1 x2 y0 y1 y2 d)) w := by
 have hs : i < listed.size := by rw [h.sz]; exact hi
 have hrng := List.all_eq_true.1 dst_rng i (by simpa using hi)
 rw [hd] at hrng
 simp only [Bool.and_eq_true, decide_eq_true_eq] at hrng
 have hget : ∀ k v, k ≠ d → (a.put (some d) v).tmps.getD k undef = a.tmps.getD k undef := fun k v hk => by
  show (a.tmps.setIfInBounds d v).getD k undef = _
  simp only [Array.getD_eq_getD_getElem?, Array.getElem?_setIfInBounds_ne (fun e => hk e.symm)]
 refine ⟨by simp [h.sz], by simp [Act.put, h.tz], (hget 2 _ (by omega)).trans h.t2, (hget 4 _ (by omega)).trans h.t4, fun j e hj he hl => ?_, fun j e he hl => ?_, ?_, h.src, h.ko, h.be⟩
 ·rw [set_get hs] at hl
  by_cases hji : j = i
  ·subst hji
   rw [hd] at he
   obtain rfl := Option.some.inj he
   show (a.tmps.setIfInBounds d _).getD d undef = _
   simp [Array.getD, h.tz, (show d < 30 by omega)]
  ·rw [if_neg hji] at hl
   have hinj := List.all_eq_true.1 (List.all_eq_true.1 dst_inj i (by simpa using hi)) j (by simpa using hj)
   rw [hd, he] at hinj
   have hne : e ≠ d := by
    rintro rfl
    simp [Ne.symm hji] at hinj
   rw [hget e _ hne]
   exact h.val j e hj he hl
 ·rw [set_get hs] at hl ⊢
  by_cases hji : j = i
  ·subst hji
   have := deps_of hr he
   split
   ·rfl
   ·exact this
  ·rw [if_neg hji] at hl
   split
   ·rfl
   ·exact h.cl j e he hl
 ·rw [set_get hs, set_get hs, set_get hs, if_neg (Ne.symm h1), if_neg (Ne.symm h2), if_neg (Ne.symm h3)]
  exact h.sum

theorem BoxR.other {w : World} {B B' : Nat} {t : TypeId} {C : Array Value} (h : BoxR w B t C) (hne : B' ≠ B) (j : Nat) (v : Value) : BoxR (w.setCell ⟨B', j, none⟩ v) B t C := by
 unfold BoxR at *
 simp [World.setCell, Array.getElem?_modify, h, hne]
theorem not_yet (h : I4 n₀ B1 B4 x0 x1 x2 y0 y1 y2 W3 listed a w) {i d : Nat} (hr : i ∈ Region.ready .any ops4 listed) (hd : (deps4 d).contains i = true) : listed.getD d false = false := by
 have hlt := ready_lt hr
 have h1 := (ready_at (o := ops4[i]) hr (Array.getElem?_eq_getElem hlt)).1
 cases hl : listed.getD d false with
 | false => rfl
 | true =>
  have h2 := h.cl d i hd hl
  have hi : i < listed.size := by rw [h.sz]; exact hlt
  simp [Array.getD, hi] at h1 h2
  rw [h1] at h2
  cases h2
end
end Go.Proofs.YtcogfddcdpgpkaaGreatDoor
namespace Go.Proofs.YtcogfddcdpgpkaaGreatDoor
open Go.Proofs Go.RowKit Go.Shelf
attribute [local go_sem] Oper.semAt_some
end Go.Proofs.YtcogfddcdpgpkaaGreatDoor
namespace Go.Av
open Go.Proofs
def firstN (c : Nat) : Nat := Go.Pinned.utf8FirstZ.getD c 0
def firstD : List D := (List.range 256).map fun c => .int .u8 (firstN c : Nat)
def accN : List Nat := [128, 191, 160, 191, 128, 159, 144, 191, 128, 143, 0, 0, 0, 0, 0, 0, 0, 0, 0, 0, 0, 0, 0, 0, 0, 0, 0, 0, 0, 0, 0, 0]
def accD : List D := accN.map fun n => .int .u8 (n : Nat)
def stS : List (List UInt8) := [[104, 111, 118, 101, 114], [97, 99, 116, 105, 118, 101], [102, 111, 99, 117, 115], [102, 111, 99, 117, 115, 45, 118, 105, 115, 105, 98, 108, 101], [118, 105, 115, 105, 116, 101, 100], [108, 105, 110, 107], [99, 104, 101, 99, 107, 101, 100], [100, 105, 115, 97, 98, 108, 101, 100], [101, 110, 97, 98, 108, 101, 100], [116, 97, 114, 103, 101, 116]]
def stD : List D := stS.map .str
def frzOps : List Oper → List Tmp
 | [] => []
 | o :: l => (match o.op with
  | .makeFunc _ _ c => c.toList.filterMap (fun | .tmp t => some t | _ => none)
  | _ => []) ++ frzOps l
def elS : List (List UInt8) := [[], [98, 101, 102, 111, 114, 101], [97, 102, 116, 101, 114], [102, 105, 114, 115, 116, 45, 108, 105, 110, 101], [102, 105, 114, 115, 116, 45, 108, 101, 116, 116, 101, 114], [109, 97, 114, 107, 101, 114], [115, 101, 108, 101, 99, 116, 105, 111, 110], [112, 108, 97, 99, 101, 104, 111, 108, 100, 101, 114], [98, 97, 99, 107, 100, 114, 111, 112]]
def elD : List D := elS.map .str
instance g12 : Gs where
 gl := fun g => if g = 0 then .fix (.agg elD) 0 else if g = 1 then .fix (.agg stD) 0 else if g = 2 then .fix (.agg firstD) 0 else if g = 3 then .fix (.agg accD) 0 else .bad
 rowAt := fun o => match o.op with | .convert s d (.tmp l) => s == 9 && d == 74 && l == 6 && o.dst == some 7 | _ => false
 frzAt := fun l => match l with
  | o :: _ => (match o.op with | .move (.tmp n) => if (n == 3 && o.dst == some 23 && o.type == 74) = true then [3] else frzOps l | _ => frzOps l)
  | [] => []
 gx := [(4, fun d => ∃ m : Int, d = .fix (.int .i64 m) 0)]
theorem mx12 : Tryz.prog.follows .mixedOrders = true := by kernel_rfl
theorem nm12 : (Tryz.prog.funcs.all fun fn => !(fn.name == "runtime.NumGoroutine")) = true := by kernel_rfl
theorem fineS : Fine Tryz.prog := by
 refine ⟨mx12, fun f fn hf => ?_⟩
 have h := Array.all_eq_true_iff_forall_mem.1 nm12 fn (Array.mem_of_getElem? hf)
 simpa using h
end Go.Av
namespace Go.Proofs.YtcogfddcdpgpkaaGreatDoor
open Go.RowKit

def Bk (w : World) (g : Nat) (t : TypeId) (cs : Array Value) : Prop := w.heap[g]? = some (.cells cs t (0, 0))

def Sl (w : World) (B : Nat) (a : Option Addr) (xs : List Value) : Prop :=
 xs ≠ [] → ∃ b off, a = some ⟨b, off, none⟩ ∧ b < B ∧ ∀ i (h : i < xs.length), w.cell? ⟨b, off + i, none⟩ = some xs[i]

section
variable {w w' : World} {g : Nat} {t : TypeId} {cs : Array Value}

theorem Bk.lt (h : Bk w g t cs) : g < w.heap.size := by
 apply Classical.byContradiction
 intro hn
 have : w.heap[g]? = none := Array.getElem?_eq_none (by omega)
 unfold Bk at h
 rw [this] at h
 cases h
theorem Bk.cell (h : Bk w g t cs) (i : Nat) : w.cell? ⟨g, i, none⟩ = cs[i]? := cell_of_row w g i cs t (0, 0) h
theorem Bk.free (h : Bk w g t cs) (i : Nat) : w.frozen? ⟨g, i, none⟩ = false := frozen_of_row w g i cs t h
theorem Bk.new (w : World) (t : TypeId) (cs : Array Value) : Bk (w.alloc (.cells cs t)) w.heap.size t cs := heap_alloc_new w _
theorem Bk.put (h : Bk w g t cs) (i : Nat) (u : Value) : Bk (w.setCell ⟨g, i, none⟩ u) g t (cs.setIfInBounds i u) := heap_setCell_same w g i cs t u h
theorem Bk.below {B : Nat} (h : Bk w g t cs) (hb : Below B w w') (hg : g < B) : Bk w' g t cs := (hb.block g hg).trans h
theorem Bk.grown {row : Option Nat} (h : Bk w g t cs) (hb : w.grownBy w' row) (hg : some g ≠ row) : Bk w' g t cs := (hb.block g h.lt hg).trans h
theorem Bk.drew (h : Bk w g t cs) : Bk w.drew g t cs := h
theorem Bk.drewN (h : Bk w g t cs) (n : Nat) : Bk (w.drewN n) g t cs := h
theorem Bk.alloc (h : Bk w g t cs) (o : Obj) : Bk (w.alloc o) g t cs := (Below.heap_alloc w o g h.lt).trans h
theorem Bk.other (h : Bk w g t cs) {p : Addr} (hp : g ≠ p.block) (u : Value) : Bk (w.setCell p u) g t cs := (Below.heap_setCell w p u g hp).trans h

theorem grown_put {a : World} {r : Option Nat} (h : a.grownBy w r) {p : Addr} (hp : r = some p.block) (u : Value) : a.grownBy (w.setCell p u) r :=
 ⟨h.os, h.tape, h.output, by simpa using h.size, fun k hk hne => (Below.heap_setCell w p u k (fun e => hne (by rw [hp, e]))).trans (h.block k hk hne)⟩
theorem below_drewN {B : Nat} {a : World} (h : Below B a w) (n : Nat) : Below B a (w.drewN n) := ⟨h.os, h.tape, h.output, h.size, h.block⟩
theorem below_of_grown {r : Option Nat} (h : w.grownBy w' r) {B : Nat} (hB : B ≤ w.heap.size) (hr : ∀ k, r = some k → B ≤ k) : Below B w w' :=
 (Below.refl B w).grown h hB hr

theorem below_cells {B : Nat} (hb : Below B w w') : (∀ b o, b < B → w'.cell? ⟨b, o, none⟩ = w.cell? ⟨b, o, none⟩) ∧ (∀ b o, b < B → w'.frozen? ⟨b, o, none⟩ = w.frozen? ⟨b, o, none⟩) :=
 ⟨fun b o h => hb.cell (p := ⟨b, o, none⟩) h, fun b o h => hb.frozen (p := ⟨b, o, none⟩) h⟩
end

section
variable {w w' : World} {B B' : Nat} {a : Option Addr} {xs : List Value}

theorem Sl.nil : Sl w B a [] := fun h => absurd rfl h
theorem Sl.keep (h : Sl w B a xs) (hk : ∀ b o, b < B → w'.cell? ⟨b, o, none⟩ = w.cell? ⟨b, o, none⟩) : Sl w' B a xs := fun hne => by
 obtain ⟨b, off, e, hb, hc⟩ := h hne
 exact ⟨b, off, e, hb, fun i hi => (hk b _ hb).trans (hc i hi)⟩
theorem Sl.mono (h : Sl w B a xs) (hB : B ≤ B') : Sl w B' a xs := fun hne => by
 obtain ⟨b, off, e, hb, hc⟩ := h hne
 exact ⟨b, off, e, Nat.lt_of_lt_of_le hb hB, hc⟩
theorem Sl.below (h : Sl w B a xs) (hb : Below B w w') : Sl w' B a xs := h.keep (below_cells hb).1
theorem Sl.drew (h : Sl w B a xs) : Sl w.drew B a xs := h
theorem Sl.drewN (h : Sl w B a xs) (n : Nat) : Sl (w.drewN n) B a xs := h
theorem Sl.alloc (h : Sl w B a xs) (hB : B ≤ w.heap.size) (o : Obj) : Sl (w.alloc o) B a xs := h.below ((Below.refl B w).alloc hB o)
theorem Sl.open_ (h : Sl w B a xs) {k : Nat} (hk : k < xs.length) : ∃ b off, a = some ⟨b, off, none⟩ ∧ b < B ∧ ∀ i (h : i < xs.length), w.cell? ⟨b, off + i, none⟩ = some xs[i] :=
 h (by intro e; subst e; simp at hk)
theorem Sl.of_own {base size n c : Nat} {e : TypeId} (h : w.ownsRow base e size (.slice a n c) n xs) : Sl w w.heap.size a xs := fun hne => by
 rcases h.2 with ⟨hv, hn⟩ | ⟨g, cap, cur, hv, _, hg, _, _, hsz, htake⟩
 ·subst hn
  have := h.1
  simp at this
  exact absurd this hne
 ·have ha : a = some ⟨g, 0, none⟩ := by injection hv
  subst ha
  refine ⟨g, 0, rfl, Bk.lt hg, fun i hi => ?_⟩
  rw [Nat.zero_add, Bk.cell hg i]
  have hx : xs[i] = (cur.toList.take (n * size))[i]'(by rw [htake]; exact hi) := by simp only [htake]
  rw [hx, List.getElem_take]
  simp
theorem Sl.lit (w : World) (t : TypeId) (cs : Array Value) : Sl (w.alloc (.cells cs t)) (w.heap.size + 1) (some ⟨w.heap.size, 0, none⟩) cs.toList := fun _ =>
 ⟨w.heap.size, 0, rfl, Nat.lt_succ_self _, fun i hi => by rw [Nat.zero_add, (Bk.new w t cs).cell i]; simp at hi; simp [hi]⟩
theorem Sl.cut (h : Sl w B a xs) {k cap n : Nat} (hk : k ≤ n) (hn : xs.length = n) (hc : n ≤ cap) : Sl w B (if cap = k then a else a.map (·.add k)) (xs.drop k) := fun hne => by
 have hlt : k < n := by
  apply Classical.byContradiction
  intro hge
  exact hne (List.drop_eq_nil_of_le (by omega))
 obtain ⟨b, off, rfl, hb, hcell⟩ := h.open_ (k := k) (by omega)
 rw [if_neg (by omega)]
 refine ⟨b, off + k, ?_, hb, fun i hi => ?_⟩
 ·simp [Addr.add]
 ·rw [Nat.add_assoc, List.getElem_drop]
  exact hcell (k + i) (by simp at hi; omega)
theorem Sl.take (h : Sl w B a xs) (k : Nat) : Sl w B a (xs.take k) := fun hne => by
 have hne' : xs ≠ [] := by intro e; subst e; simp at hne
 obtain ⟨b, off, e, hb, hc⟩ := h hne'
 refine ⟨b, off, e, hb, fun i hi => ?_⟩
 rw [List.getElem_take]
 exact hc i (by simp at hi; omega)
end

def Qt (w w' : World) : Prop := ∃ n, w' = w.drewN n
section
variable {w w' : World}
theorem Qt.refl (w : World) : Qt w w := ⟨0, rfl⟩
theorem Qt.drewN (h : Qt w w') (n : Nat) : Qt w (w'.drewN n) := by
 obtain ⟨m, rfl⟩ := h
 exact ⟨m + n, by simp [World.drewN, Nat.add_assoc]⟩
theorem Qt.drew (h : Qt w w') : Qt w w'.drew := by
 obtain ⟨m, rfl⟩ := h
 exact ⟨m + 1, rfl⟩
theorem Qt.cell (h : Qt w w') (a : Addr) : w'.cell? a = w.cell? a := by
 obtain ⟨m, rfl⟩ := h
 rfl
theorem Qt.frozen (h : Qt w w') (a : Addr) : w'.frozen? a = w.frozen? a := by
 obtain ⟨m, rfl⟩ := h
 rfl
theorem Qt.heap (h : Qt w w') : w'.heap = w.heap := by
 obtain ⟨m, rfl⟩ := h
 rfl
theorem Qt.below (h : Qt w w') {B : Nat} : Below B w w' := by
 obtain ⟨m, rfl⟩ := h
 exact below_drewN (Below.refl B w) m
theorem Qt.grown (h : Qt w w') : w.grownBy w' none := by
 obtain ⟨m, rfl⟩ := h
 exact ⟨rfl, rfl, rfl, Nat.le_refl _, fun _ _ _ => rfl⟩
theorem Qt.trans {w'' : World} (h : Qt w w') (h' : Qt w' w'') : Qt w w'' := by
 obtain ⟨m, rfl⟩ := h'
 exact h.drewN m
end

theorem addr_add (b off j : Nat) : (⟨b, off, none⟩ : Addr).add j = ⟨b, off + j, none⟩ := by
 by_cases h : j = 0
 ·subst h; simp [Addr.add]
 ·simp [Addr.add, h]
theorem Sl.int {w : World} {B : Nat} {a : Option Addr} {k : IntKind} {zs : List Int} (h : Sl w B a (zs.map (Value.int k))) {i : Nat} (hi : i < zs.length) :
  ∃ b off, a = some ⟨b, off, none⟩ ∧ b < B ∧ ∀ j, j < zs.length → w.cell? ⟨b, off + j, none⟩ = some (.int k (zs.getD j 0)) := by
 obtain ⟨b, off, e, hb, hc⟩ := h.open_ (k := i) (by simpa using hi)
 refine ⟨b, off, e, hb, fun j hj => ?_⟩
 rw [hc j (by simpa using hj)]
 simp [hj]
theorem ret_int {k : IntKind} {a b : Int} (h : a = b) : Ending.returned (.int k a) = .returned (.int k b) := by rw [h]
theorem ret_bool {a b : Bool} (h : a = b) : Ending.returned (.bool a) = .returned (.bool b) := by rw [h]
end Go.Proofs.YtcogfddcdpgpkaaGreatDoor
namespace Go.Proofs.YtcogfddcdpgpkaaGreatDoor
open Go.RowKit

def EI (P : Program) (t e : TypeId) (size bytes : Nat) : Prop :=
 ∃ i z, P.underlying t = some (.slice e) ∧ P.info? e = some i ∧ i.zero = some z ∧ i.size = size ∧ i.bytes = bytes ∧ z.cells.size = size ∧ 0 < size

theorem EI.mk {P : Program} {t e : TypeId} {z : Value} {size bytes : Nat} (ht : P.underlying t = some (.slice e)) (h : (P.info? e).map (fun i => (i.zero, i.size, i.bytes)) = some (some z, size, bytes)) (hz : z.cells.size = size) (hs : 0 < size) : EI P t e size bytes := by
 obtain ⟨i, hi, h0, h1, h2⟩ := info_parts h
 exact ⟨i, z, ht, hi, h0, h1, h2, hz, hs⟩

section
variable {P : Program} {ops : Array Oper} {rest : List Oper} {o : Oper} {a : Act} {Q : Exit → Act → World → Prop}

theorem own_below {w w' : World} {base size n : Nat} {e : TypeId} {v : Value} {xs : List Value} (hown : w.ownsRow base e size v n xs) (hg : w.grownBy w' v.ownBlock) (hbase : base ≤ w.heap.size) : Below base w w' :=
 below_of_grown hg hbase fun k hk => (hown.lt k hk).1

def OwnR (w : World) (base : Nat) (e : TypeId) (size : Nat) (v : Value) (n : Nat) (xs : List Value) : Prop :=
 (n = 0 ∧ xs = [] ∧ ∃ A, v = .slice A 0 0) ∨ w.ownsRow base e size v n xs
theorem grown_any {w w' : World} (h : w.grownBy w' none) (row : Option Nat) : w.grownBy w' row := ⟨h.os, h.tape, h.output, h.size, fun k hk _ => h.block k hk (by simp)⟩

theorem run_appR (w : World) {t ty e : TypeId} {size bytes base n : Nat} {v : Value} {xs : List Value} (E : EI P t e size bytes) (hown : OwnR w base e size v n xs)
  (B : Nat) (A : Option Addr) (m c : Nat) (news : List Value) (hr : Sl w B A news) (hl : news.length = m * size) (h1 : ∀ u ∈ news, u.oneCell' = true)
  (h63 : n + m ≤ maxLen) (hbytes : (n + m) * bytes ≤ 140737488355328) (hbase : base ≤ w.heap.size) :
  ∃ v' w', (Builtin.append_ #[t, t] ty #[v, .slice A m c]).run P w = .ok v' w' ∧ OwnR w' base e size v' (n + m) (xs ++ news) ∧ w.grownBy w' v.ownBlock ∧ Below base w w' := by
 have E0 := E
 obtain ⟨i, z, ht, hi, hz, hsz, hby, hzs, hpos⟩ := E
 have hcells : ∀ ad, A = some ad → ∀ j u, news[j]? = some u → w.cell? (ad.add j) = some u := by
  intro ad had j u hj
  subst had
  have hjl : j < news.length := by
   apply Classical.byContradiction
   intro hge
   rw [List.getElem?_eq_none (by omega)] at hj
   cases hj
  obtain ⟨b, off, h0, _, hc⟩ := hr.open_ (k := j) hjl
  injection h0 with h0
  subst h0
  rw [List.getElem?_eq_getElem hjl] at hj
  injection hj with hj
  subst hj
  rw [addr_add]
  exact hc j hjl
 have hnil : A = none → news = [] := by
  intro hA
  apply Classical.byContradiction
  intro hne
  obtain ⟨b, off, h0, _⟩ := hr hne
  rw [hA] at h0
  cases h0
 have hm0 : news = [] → m = 0 := by
  intro h
  rw [h] at hl
  rcases Nat.eq_zero_or_pos m with h0 | h0
  ·exact h0
  ·have := Nat.mul_pos h0 hpos
   simp at hl
   omega
 by_cases hn : news = []
 ·have hm := hm0 hn
  subst hn hm
  refine ⟨v, w, ?_, by simpa using hown, World.grownBy.refl _ _, Below.refl _ _⟩
  have hc0 : ∀ ad : Addr, (loadCells ad 0).run P w = .ok #[] w := fun ad => by simp [loadCells, loadCellsFrom]
  rcases hown with ⟨_, _, A0, rfl⟩ | ⟨_, ⟨rfl, _⟩ | ⟨g, cap, cur, rfl, _, _, hnc, _⟩⟩
  ·cases A <;> cases A0 <;> simp [Builtin.append_, run_underlying ht, sizeOf, typeInfo, hi, Builtin.lenOf, Builtin.firstCells, storeCells, hc0]
  ·cases A <;> simp [Builtin.append_, run_underlying ht, sizeOf, typeInfo, hi, Builtin.lenOf, Builtin.firstCells, hc0]
  ·cases A <;> simp [Builtin.append_, run_underlying ht, sizeOf, typeInfo, hi, Builtin.lenOf, Builtin.firstCells, hnc, storeCells, hc0]
 ·obtain ⟨ad, rfl⟩ : ∃ ad, A = some ad := by
   cases A with
   | none => exact absurd (hnil rfl) hn
   | some ad => exact ⟨ad, rfl⟩
  have hmp : 0 < m := by
   rcases Nat.eq_zero_or_pos m with h0 | h0
   ·subst h0
    simp at hl
    exact absurd hl hn
   ·exact h0
  rcases hown with ⟨rfl, rfl, A0, rfl⟩ | hown
  ·have hb0 : m * bytes ≤ 140737488355328 := by simpa using hbytes
   have hm63 : m ≤ 9223372036854775807 := by simpa [maxLen] using h63
   obtain ⟨v', w', hrun, ho, hg, _⟩ := run_append_own (P := P) w base t ty e i z size bytes ht hi hz hsz hby hzs hpos (.slice none 0 0) 0 [] (World.ownsRow_nil w base e size) ad m c news hl (hcells ad rfl) h1 h63 hbytes hbase
   refine ⟨v', w', ?_, .inr ho, grown_any hg _, below_of_grown hg hbase (fun k hk => by cases hk)⟩
   cases A0 with
   | none => exact hrun
   | some s0 =>
    subst hsz hby
    have r1 := run_append_nil (P := P) w t ty e i z ht hi hz ad m c news hl (hcells ad rfl) hmp (by omega) (by omega)
    have r2 := run_append_grow (P := P) w t ty e i z ht hi hz s0 0 0 [] (by simp) (fun j u hj => by simp at hj) ad m c news hl (hcells ad rfl) (by omega) (by omega) (growslice_fits (by omega) hbytes)
    rw [hrun] at r1
    rw [r2]
    simp only [Nat.zero_add, Array.empty_append]
    exact r1.symm
  ·obtain ⟨v', w', hrun, ho, hg, _⟩ := run_append_own (P := P) w base t ty e i z size bytes ht hi hz hsz hby hzs hpos v n xs hown ad m c news hl (hcells ad rfl) h1 h63 hbytes hbase
   exact ⟨v', w', hrun, .inr ho, hg, own_below hown hg hbase⟩

theorem wp_appR {K : Act → World → Prop} (w0 : World) (s x : Operand) (t : TypeId) (ho : o.op = .call { callee := .builtin .append, args := #[s, x], argTypes := #[t, t] })
  {e : TypeId} {size bytes : Nat} (E : EI P t e size bytes) (base : Nat) (v : Value) (n : Nat) (xs : List Value) (hs : a.eval s = v) (hown : OwnR w0 base e size v n xs)
  (B : Nat) (A : Option Addr) (m c : Nat) (news : List Value) (hx : a.eval x = .slice A m c) (hr : Sl w0 B A news) (hl : news.length = m * size) (h1 : ∀ u ∈ news, u.oneCell' = true)
  (h63 : n + m ≤ maxLen) (hbytes : (n + m) * bytes ≤ 140737488355328) (hbase : base ≤ w0.heap.size)
  (h : ∀ v' w', OwnR w' base e size v' (n + m) (xs ++ news) → w0.grownBy w' v.ownBlock → Below base w0 w' → K (a.put o.dst v') w') : o.wp P a w0 K Q := by
 obtain ⟨v', w', hrun, h2, h3, h4⟩ := run_appR (ty := o.type) w0 E hown B A m c news hr hl h1 h63 hbytes hbase
 unfold Oper.wp execOp
 simp only [ho, resolve, invoke, builtin, Sem.run_bind, Sem.run_pure, Result.andThen_ok, List.map_toArray, List.map_cons, List.map_nil, hs, hx, hrun]
 exact h v' w' h2 h3 h4
theorem app_slR (w0 : World) (hgd : o.guard = none) (s x : Operand) (t : TypeId) (ho : o.op = .call { callee := .builtin .append, args := #[s, x], argTypes := #[t, t] })
  {e : TypeId} {size bytes : Nat} (E : EI P t e size bytes) (base : Nat) (v : Value) (n : Nat) (xs : List Value) (hs : a.eval s = v) (hown : OwnR w0 base e size v n xs)
  (B : Nat) (A : Option Addr) (m c : Nat) (news : List Value) (hx : a.eval x = .slice A m c) (hr : Sl w0 B A news) (hl : news.length = m * size) (h1 : ∀ u ∈ news, u.oneCell' = true)
  (h63 : n + m ≤ maxLen) (hbytes : (n + m) * bytes ≤ 140737488355328) (hbase : base ≤ w0.heap.size)
  (h : ∀ v' w', OwnR w' base e size v' (n + m) (xs ++ news) → w0.grownBy w' v.ownBlock → Below base w0 w' → wpList P ops Q rest (a.put o.dst v') w') :
  wpList P ops Q (o :: rest) a w0 :=
 wpList_plain hgd fun _ hK => wp_appR w0 s x t ho E base v n xs hs hown B A m c news hx hr hl h1 h63 hbytes hbase fun v' w' h2 h3 h4 => hK _ _ (h v' w' h2 h3 h4)
end
end Go.Proofs.YtcogfddcdpgpkaaGreatDoor
namespace Go.Proofs.YtcogfddcdpgpkaaGreatDoor
open Go.RowKit

def lenV : Value → Nat | .slice _ n _ => n | _ => 0

def OwnL (w : World) (base : Nat) (e : TypeId) (k : IntKind) (v : Value) (l : List Int) : Prop := OwnR w base e 1 v l.length (l.map (Value.int k))

section
variable {w w' : World} {base : Nat} {e : TypeId} {size n : Nat} {v : Value} {xs : List Value}
theorem OwnR.form (h : OwnR w base e size v n xs) : ∃ a c, v = .slice a n c ∧ n ≤ c ∧ xs.length = n * size ∧ Sl w w.heap.size a xs := by
 rcases h with ⟨rfl, rfl, A, rfl⟩ | h
 ·exact ⟨A, 0, rfl, Nat.le_refl _, by simp, Sl.nil⟩
 ·have h' := h
  rcases h.2 with ⟨hv, hn⟩ | ⟨g, cap, cur, hv, _, hg, h1, _, _, htake⟩
  ·subst hn
   have : xs = [] := List.length_eq_zero_iff.1 (by simpa using h.1)
   subst this
   exact ⟨none, 0, hv, Nat.le_refl _, by simp, Sl.nil⟩
  ·refine ⟨_, cap, hv, h1, h.1, ?_⟩
   rw [hv] at h'
   exact Sl.of_own h'
theorem OwnR.alloc (h : OwnR w base e size v n xs) (o : Obj) : OwnR (w.alloc o) base e size v n xs := h.imp id fun h => World.ownsRow.alloc h o
theorem OwnR.drew (h : OwnR w base e size v n xs) : OwnR w.drew base e size v n xs := h
theorem OwnR.drewN (h : OwnR w base e size v n xs) (m : Nat) : OwnR (w.drewN m) base e size v n xs := h
theorem OwnR.grown {row : Option Nat} (h : OwnR w base e size v n xs) (hg : w.grownBy w' row) (hne : v.ownBlock = none ∨ v.ownBlock ≠ row) : OwnR w' base e size v n xs := h.imp id fun h => World.ownsRow.kept h hg hne
theorem OwnR.below (h : OwnR w base e size v n xs) (hb : Below w.heap.size w w') : OwnR w' base e size v n xs := by
 refine h.imp id fun h => ⟨h.1, ?_⟩
 rcases h.2 with h1 | ⟨g, cap, cur, hv, hb0, hg, h1⟩
 ·exact .inl h1
 ·exact .inr ⟨g, cap, cur, hv, hb0, Bk.below hg hb (Bk.lt hg), h1⟩
theorem OwnR.mono {base' : Nat} (h : OwnR w base e size v n xs) (hb : base' ≤ base) : OwnR w base' e size v n xs := by
 refine h.imp id fun h => ⟨h.1, ?_⟩
 rcases h.2 with h1 | ⟨g, cap, cur, hv, hb0, h1⟩
 ·exact .inl h1
 ·exact .inr ⟨g, cap, cur, hv, by omega, h1⟩
theorem OwnR.zero (w : World) (base : Nat) (e : TypeId) (size : Nat) (A : Option Addr) : OwnR w base e size (.slice A 0 0) 0 [] := .inl ⟨rfl, rfl, A, rfl⟩
end

section
variable {w w' : World} {base : Nat} {e : TypeId} {k : IntKind} {v : Value} {l : List Int}
theorem OwnL.form (h : OwnL w base e k v l) : ∃ a c, v = .slice a l.length c ∧ l.length ≤ c ∧ Sl w w.heap.size a (l.map (Value.int k)) := by
 obtain ⟨a, c, h1, h2, _, h3⟩ := OwnR.form h
 exact ⟨a, c, h1, h2, h3⟩
theorem OwnL.sl {a : Option Addr} {n c : Nat} (h : OwnL w base e k (.slice a n c) l) : Sl w w.heap.size a (l.map (Value.int k)) := by
 obtain ⟨a', c', hv, _, hs⟩ := h.form
 injection hv with h1 h2 h3
 subst h1
 exact hs
theorem OwnL.len {a : Option Addr} {n c : Nat} (h : OwnL w base e k (.slice a n c) l) : n = l.length ∧ l.length ≤ c := by
 obtain ⟨a', c', hv, hc, _⟩ := h.form
 injection hv with h1 h2 h3
 subst h3
 exact ⟨h2, hc⟩
theorem OwnL.alloc (h : OwnL w base e k v l) (o : Obj) : OwnL (w.alloc o) base e k v l := OwnR.alloc h o
theorem OwnL.drew (h : OwnL w base e k v l) : OwnL w.drew base e k v l := h
theorem OwnL.drewN (h : OwnL w base e k v l) (n : Nat) : OwnL (w.drewN n) base e k v l := h
theorem OwnL.grown {row : Option Nat} (h : OwnL w base e k v l) (hg : w.grownBy w' row) (hne : v.ownBlock = none ∨ v.ownBlock ≠ row) : OwnL w' base e k v l := OwnR.grown h hg hne
theorem OwnL.below (h : OwnL w base e k v l) (hb : Below w.heap.size w w') : OwnL w' base e k v l := OwnR.below h hb
theorem OwnL.mono {base' : Nat} (h : OwnL w base e k v l) (hb : base' ≤ base) : OwnL w base' e k v l := OwnR.mono h hb
theorem OwnL.nil (w : World) (base : Nat) (e : TypeId) (k : IntKind) (A : Option Addr) : OwnL w base e k (.slice A 0 0) [] := OwnR.zero w base e 1 A
end

def RetL (k : IntKind) (w : World) (l : List Int) (e : Ending) (w' : World) : Prop :=
 ∃ a c, e = .returned (.slice a l.length c) ∧ l.length ≤ c ∧ Sl w' w'.heap.size a (l.map (Value.int k)) ∧ Below w.heap.size w w'
theorem RetL.of {k : IntKind} {w w' : World} {l : List Int} {e : Ending} {base : Nat} {t : TypeId} {v : Value} (he : e = .returned v) (ho : OwnL w' base t k v l) (hb : Below w.heap.size w w') : RetL k w l e w' := by
 obtain ⟨a, c, rfl, hc, hs⟩ := ho.form
 exact ⟨a, c, he, hc, hs, hb⟩
def RetV (w : World) (v : Value) (e : Ending) (w' : World) : Prop := e = .returned v ∧ Below w.heap.size w w'

section
variable {P : Program} {ops : Array Oper} {rest : List Oper} {o : Oper} {a : Act} {Q : Exit → Act → World → Prop}
theorem int_cells (k : IntKind) (l : List Int) : ∀ u ∈ l.map (Value.int k), u.oneCell' = true := by
 intro u hu
 simp at hu
 obtain ⟨z, _, rfl⟩ := hu
 rfl
theorem wp_appL {K : Act → World → Prop} (w0 : World) (s x : Operand) (t : TypeId) (ho : o.op = .call { callee := .builtin .append, args := #[s, x], argTypes := #[t, t] })
  {e : TypeId} {bytes : Nat} (E : EI P t e 1 bytes) (hb8 : bytes ≤ 8) (base : Nat) (k : IntKind) (v : Value) (l : List Int) (hs : a.eval s = v) (hown : OwnL w0 base e k v l)
  (B : Nat) (A : Option Addr) (m c : Nat) (news : List Int) (hx : a.eval x = .slice A m c) (hm : m = news.length) (hr : Sl w0 B A (news.map (Value.int k)))
  (hl : l.length ≤ 1099511627776) (hl2 : news.length ≤ 1099511627776) (hbase : base ≤ w0.heap.size)
  (h : ∀ v' w', OwnL w' base e k v' (l ++ news) → w0.grownBy w' v.ownBlock → Below base w0 w' → K (a.put o.dst v') w') : o.wp P a w0 K Q := by
 subst hm
 refine wp_appR w0 s x t ho E base v l.length _ hs hown B A news.length c _ hx hr (by simp) (int_cells k news) (by unfold maxLen; omega) ?_ hbase ?_
 ·have : (l.length + news.length) * bytes ≤ (l.length + news.length) * 8 := Nat.mul_le_mul_left _ hb8
  omega
 ·intro v' w' ho' hg hbw
  refine h v' w' ?_ hg hbw
  unfold OwnL
  simpa using ho'
theorem appL_sl (w0 : World) (hgd : o.guard = none) (s x : Operand) (t : TypeId) (ho : o.op = .call { callee := .builtin .append, args := #[s, x], argTypes := #[t, t] })
  {e : TypeId} {bytes : Nat} (E : EI P t e 1 bytes) (hb8 : bytes ≤ 8) (base : Nat) (k : IntKind) (v : Value) (l : List Int) (hs : a.eval s = v) (hown : OwnL w0 base e k v l)
  (B : Nat) (A : Option Addr) (m c : Nat) (news : List Int) (hx : a.eval x = .slice A m c) (hm : m = news.length) (hr : Sl w0 B A (news.map (Value.int k)))
  (hl : l.length ≤ 1099511627776) (hl2 : news.length ≤ 1099511627776) (hbase : base ≤ w0.heap.size)
  (h : ∀ v' w', OwnL w' base e k v' (l ++ news) → w0.grownBy w' v.ownBlock → Below base w0 w' → wpList P ops Q rest (a.put o.dst v') w') :
  wpList P ops Q (o :: rest) a w0 :=
 wpList_plain hgd fun _ hK => wp_appL w0 s x t ho E hb8 base k v l hs hown B A m c news hx hm hr hl hl2 hbase fun v' w' h2 h3 h4 => hK _ _ (h v' w' h2 h3 h4)
theorem appL_one (w0 : World) (hgd : o.guard = none) (s x : Operand) (t : TypeId) (ho : o.op = .call { callee := .builtin .append, args := #[s, x], argTypes := #[t, t] })
  {e : TypeId} {bytes : Nat} (E : EI P t e 1 bytes) (hb8 : bytes ≤ 8) (base : Nat) (k : IntKind) (v : Value) (l : List Int) (z : Int) (hs : a.eval s = v) (hown : OwnL w0 base e k v l)
  (hx : a.eval x = .slice (some ⟨w0.heap.size, 0, none⟩) 1 1) (hl : l.length ≤ 1099511627776) (hbase : base ≤ w0.heap.size)
  (h : ∀ v' w', OwnL w' base e k v' (l ++ [z]) → w0.grownBy w' v.ownBlock → Below base w0 w' → wpList P ops Q rest (a.put o.dst v') w') :
  wpList P ops Q (o :: rest) a (w0.alloc (.cells #[.int k z] e)) := by
 refine appL_sl (w0.alloc (.cells #[.int k z] e)) hgd s x t ho E hb8 base k v l hs (hown.alloc _) _ _ 1 1 [z] hx rfl (Sl.lit w0 e #[.int k z]) hl (by simp) (Nat.le_trans hbase (by simp)) ?_
 intro v' w' ho' hg hbw
 refine h v' w' ho' ⟨hg.os, hg.tape, hg.output, Nat.le_trans (by simp) hg.size, fun k hk hne => (hg.block k (by simp; omega) hne).trans (Below.heap_alloc w0 _ k hk)⟩ ?_
 exact ((Below.refl base w0).alloc hbase _).trans hbw
end
end Go.Proofs.YtcogfddcdpgpkaaGreatDoor
namespace Go.Av
open Go.Proofs Go.RowKit Go.Proofs.YtcogfddcdpgpkaaGreatDoor
def nw (F : Nat → Nat → Prop) (w w' : World) : Nat → Nat → Prop := fun b o => F b o ∨ (w.heap.size ≤ b ∧ b < w'.heap.size)
theorem ext_nw {F : Nat → Nat → Prop} {w w' : World} (hlt : Lt F w) (hb : Below w.heap.size w w') : Ext (fun _ => False) F w (nw F w w') w' := by
 refine ⟨hb.os, hb.tape, hb.output, hb.size, fun b h _ => hb.block b h, fun b o h => .inl h, fun b o h => ?_, fun b es c hf hm => (hb.block b (hlt b 0 hf)).trans hm⟩
 unfold World.cell?
 rw [hb.block b (hlt b o h)]
theorem lt_nw {F : Nat → Nat → Prop} {w w' : World} (hlt : Lt F w) (hb : Below w.heap.size w w') : Lt (nw F w w') w' := by
 rintro b o (h | h)
 ·exact Nat.lt_of_lt_of_le (hlt b o h) hb.size
 ·exact h.2
theorem Den0.grow {F F' : Nat → Nat → Prop} {w : World} {v : Value} {d : D} (h : Den0 F w v d) (hF : ∀ b o, F b o → F' b o) : Den0 F' w v d :=
 h.ext (S := fun _ => False) ⟨rfl, rfl, rfl, Nat.le_refl _, fun _ _ _ => rfl, hF, fun _ _ _ => rfl, fun _ _ _ _ hm => hm⟩
def RetD (F : Nat → Nat → Prop) (w : World) (d : D) (e : Ending) (w' : World) : Prop := ∃ v, e = .returned v ∧ Below w.heap.size w w' ∧ ∀ c ν, Den c ν (nw F w w') w' v d
theorem RetD.ret [Gs] {P : Program} {μ : Mu} {F : Nat → Nat → Prop} {w w' : World} {d : D} {e : Ending} (hlt : Lt F w) (h : RetD F w d e w') : Ret P 0 μ F w d [] [] e w' := by
 obtain ⟨v, rfl, hb, hv⟩ := h
 refine ⟨v, nw F w w', fun _ _ => none, rfl, (ext_nw hlt hb).weaken (fun _ _ h => h.elim), lt_nw hlt hb, fun b o h => h.imp id fun h => .inl h.1, .inl ⟨rfl, hv, rooms_nil⟩, fun j i g h => ?_, fun j i j' i' g h => ?_, fun i bx hi => absurd hi (Nat.not_lt_zero i)⟩
 ·cases h
 ·cases h
theorem RetD.of {F : Nat → Nat → Prop} {w w' : World} {v : Value} {d : D} (hb : Below w.heap.size w w') (hv : Den0 (nw F w w') w' v d) : RetD F w d (.returned v) w' := ⟨v, rfl, hb, fun _ _ => .pure _ _ hv⟩
theorem Ret.retD [Gs] {P : Program} {μ : Mu} {F : Nat → Nat → Prop} {w w' : World} {d : D} {r : List Room} {e : Ending} (h : Ret P 0 μ F w d r [] e w') : RetD F w d e w' := by
 obtain ⟨v, F', nc, rfl, hE, hlt, hn, hv, _⟩ := h
 refine ⟨v, rfl, ⟨hE.os, hE.tape, hE.output, hE.size, fun b hb => hE.block b hb (S_zero _ b)⟩, ?_⟩
 rcases hv with ⟨_, hv, _⟩ | ⟨h1, _⟩
 ·exact fun c ν => (hv c ν).ext (S := fun _ => False) ⟨rfl, rfl, rfl, Nat.le_refl _, fun _ _ _ => rfl, fun b o h => (hn b o h).imp id fun h' => ⟨h'.resolve_right (C_zero _ b), hlt b o h⟩, fun _ _ _ => rfl, fun _ _ _ _ hm => hm⟩
 ·simp at h1
theorem list_sl {F : Nat → Nat → Prop} {w : World} {v : Value} {es : List D} {sz : Nat} (hlt : Lt F w) (h : Den0 F w v (.list es)) (hs : ∀ e ∈ es, (dcells e).length = sz) :
  ∃ a c vs, v = .slice a es.length c ∧ es.length ≤ c ∧ vs.length = es.length * sz ∧ Sl w w.heap.size a vs ∧ (∀ u ∈ vs, u.oneCell' = true) ∧ ∀ (i : Nat) (v : Value) (x : D), vs[i]? = some v → (flat es)[i]? = some x → Den0 F w v x := by
 cases h with
 | list a n c sz' es vs h1 h2 h3 h4 h5 h6 h7 =>
  subst h1
  have hl : vs.length = es.length * sz := by
   rcases es with _ | ⟨e0, r0⟩
   ·simpa using h5
   ·rw [h5, ← h4 e0 (by simp), ← hs e0 (by simp)]
  refine ⟨a, c, vs, rfl, h2, hl, ?_, ?_, h7⟩
  ·intro hne
   rcases h6 with h6 | ⟨b, off, ha, hc⟩
   ·exact absurd h6 hne
   ·refine ⟨b, off, ha, ?_, fun i hi => (hc i _ (List.getElem?_eq_getElem hi)).2.1⟩
    have := (hc 0 _ (List.getElem?_eq_getElem (List.length_pos_iff.2 hne))).1
    exact hlt _ _ this
  ·intro u hu
   rcases h6 with h6 | ⟨b, off, ha, hc⟩
   ·rw [h6] at hu; cases hu
   ·obtain ⟨i, hi⟩ := List.mem_iff_getElem?.1 hu
    exact (hc i _ hi).2.2
theorem own_den {F : Nat → Nat → Prop} {w : World} {base n sz : Nat} {e : TypeId} {v : Value} {vs : List Value} {es : List D} (hown : OwnR w base e sz v n vs) (hn : n = es.length) (hsz : 0 < sz) (hs : ∀ e ∈ es, (dcells e).length = sz)
  (hF : ∀ b o, base ≤ b → b < w.heap.size → F b o) (h1 : ∀ u ∈ vs, u.oneCell' = true) (hd : ∀ (i : Nat) (v : Value) (x : D), vs[i]? = some v → (flat es)[i]? = some x → Den0 F w v x) : Den0 F w v (.list es) := by
 rcases hown with ⟨h0, hv0, A, rfl⟩ | ⟨hl, ⟨rfl, h0⟩ | ⟨g, cap, cur, rfl, hg, hh, hc, hm, hcs, ht⟩⟩
 ·subst hv0
  exact .list A 0 0 sz es [] (by omega) (Nat.le_refl _) hsz hs (by simp) (.inl rfl) hd
 ·exact .list none 0 0 sz es vs (by omega) (Nat.le_refl _) hsz hs (by rw [hl, h0]) (.inl (List.eq_nil_of_length_eq_zero (by rw [hl, h0]; simp))) hd
 ·refine .list _ n cap sz es vs hn.symm hc hsz hs hl (.inr ⟨g, 0, rfl, fun i v hv => ?_⟩) hd
  have hgl : g < w.heap.size := (Array.getElem?_eq_some_iff.1 hh).1
  refine ⟨hF _ _ hg hgl, ?_, h1 v (List.mem_of_getElem? hv)⟩
  rw [← ht, List.getElem?_take] at hv
  split at hv
  ·unfold World.cell?
   simp only [hh, Nat.zero_add]
   simpa using hv
  ·cases hv
theorem one_den {c : Nat → Nat} {ν : Nat → Nat → Nat} {F : Nat → Nat → Prop} {w : World} {vals : List Value} {d : D} (hl : vals.length = [d].length) (h : ∀ (i : Nat) (v : Value) (x : D), vals[i]? = some v → [d][i]? = some x → Den c ν F w v x) : ∃ v, vals = [v] ∧ Den c ν F w v d := by
 match vals, hl with
 | [v], _ => exact ⟨v, rfl, h 0 v d rfl rfl⟩

def noPtr : D → Bool
 | .int _ _ | .str _ | .bool _ | .con _ => true
 | _ => false
theorem noPtr_den {F F' : Nat → Nat → Prop} {w w' : World} {v : Value} {x : D} (hx : noPtr x = true) (h : Den0 F w v x) : Den0 F' w' v x := by
 cases h with
 | int k n => exact .int k n
 | str l => exact .str l
 | bool b => exact .bool b
 | con v h => exact .con v h
 | list => cases hx
 | agg => cases hx
 | fix => cases hx
 | iface => cases hx
 | func => cases hx
 | imap => cases hx
def Keep (F G : Nat → Nat → Prop) (w : World) (es : List D) : Prop := ∀ (W : World) (v : Value) (x : D), x ∈ flat es → Below w.heap.size w W → Den0 F w v x → Den0 (nw G w W) W v x
theorem Keep.same {F : Nat → Nat → Prop} {w : World} {es : List D} (hlt : Lt F w) : Keep F F w es := fun W v x _ hb h => h.ext (ext_nw hlt hb)
theorem Keep.leaf {F G : Nat → Nat → Prop} {w : World} {es : List D} (h : ∀ x ∈ flat es, noPtr x = true) : Keep F G w es := fun W v x hx _ hd => noPtr_den (h x hx) hd
theorem ei39 : EI Tryz.prog 81 3 1 8 := EI.mk (z := .int .i64 0) (by kernel_rfl) (by kernel_rfl) rfl (by decide)
theorem clone32_gen (es : List D) (F G : Nat → Nat → Prop) (w : World) (v : Value) (hlt : Lt F w) (hd : Den0 F w v (.list es)) (hk : Keep F G w es) (hs : ∀ e ∈ es, (dcells e).length = 1) (hL : es.length ≤ 1000000000) :
  Calls Tryz.prog 61 #[v] w (RetD G w (.list es)) := by
 obtain ⟨a, c, vs, rfl, hc, hvl, hsl, h1, hx⟩ := list_sl hlt hd hs
 have hs0 := hsl.alloc (Nat.le_refl _) (.cells #[] 3)
 have ho0 : OwnR (w.alloc (.cells #[] 3)) w.heap.size 3 1 (.slice (some ⟨w.heap.size, 0, none⟩) 0 0) 0 [] := .inl ⟨rfl, rfl, _, rfl⟩
 cases a with
 | none =>
  have hvs : vs = [] := by
   apply Classical.byContradiction
   intro hne
   obtain ⟨b, off, e, _⟩ := hsl hne
   cases e
  have he : es = [] := List.eq_nil_of_length_eq_zero (by rw [hvs] at hvl; simp at hvl; omega)
  subst he
  have qT : ∀ (w : World) (a : Option Addr) (n c : Nat), (binOp .eql 81 (.slice a n c) (.slice none 0 0)).run Tryz.prog w = .ok (.bool a.isNone) w := fun w a n c => Lib.run_eql_slice_nil w _ _ a n c 0 0 (show Tryz.prog.underlying 81 = some (.slice 3) by kernel_rfl)
  go_enter Tryz.func61, Tryz.ntmps61
  go_wp2_with fail
  go_ret
  exact RetD.of (Below.refl _ _) (.list none 0 0 1 [] [] rfl (Nat.le_refl _) (by decide) hs rfl (.inl rfl) (by simp))
 | some p =>
  have qT : ∀ (w : World) (a : Option Addr) (n c : Nat), (binOp .eql 81 (.slice a n c) (.slice none 0 0)).run Tryz.prog w = .ok (.bool a.isNone) w := fun w a n c => Lib.run_eql_slice_nil w _ _ a n c 0 0 (show Tryz.prog.underlying 81 = some (.slice 3) by kernel_rfl)
  go_enter Tryz.func61, Tryz.ntmps61
  go_wp2_with (at_builtin; refine app_slR _ rfl (.tmp 5) (.tmp 6) 81 rfl ei39 w.heap.size _ 0 [] rfl ho0 w.heap.size (some p) es.length c vs rfl hs0 hvl h1 (by simp only [maxLen]; omega) (by omega) (by simp) ?_; intro v w1 ho1 hg1 hb1)
  go_ret
  have hb : Below w.heap.size w w1 := ((Below.refl _ w).alloc (Nat.le_refl _) _).trans hb1
  refine RetD.of hb (own_den ho1 (by simp) (by decide) hs (fun b o h1 h2 => .inr ⟨h1, h2⟩) (by simpa using h1) fun i v x hv hxx => ?_)
  exact hk _ _ _ (List.mem_of_getElem? hxx) hb (hx i v x (by simpa using hv) hxx)

theorem clone32_any (es : List D) (F : Nat → Nat → Prop) (w : World) (v : Value) (hlt : Lt F w) (hd : Den0 F w v (.list es)) (hs : ∀ e ∈ es, (dcells e).length = 1) (hL : es.length ≤ 1000000000) :
  Calls Tryz.prog 61 #[v] w (RetD F w (.list es)) :=
 clone32_gen es F F w v hlt hd (Keep.same hlt) hs hL

theorem ei23 : EI Tryz.prog 69 97 3 48 := EI.mk (z := .agg #[.string ⟨#[]⟩, .string ⟨#[]⟩, .string ⟨#[]⟩]) (by kernel_rfl) (by kernel_rfl) rfl (by decide)
theorem clone46_gen (es : List D) (F G : Nat → Nat → Prop) (w : World) (v : Value) (hlt : Lt F w) (hd : Den0 F w v (.list es)) (hk : Keep F G w es) (hs : ∀ e ∈ es, (dcells e).length = 3) (hL : es.length ≤ 1000000000) :
  Calls Tryz.prog 58 #[v] w (RetD G w (.list es)) := by
 obtain ⟨a, c, vs, rfl, hc, hvl, hsl, h1, hx⟩ := list_sl hlt hd hs
 have hs0 := hsl.alloc (Nat.le_refl _) (.cells #[] 97)
 have ho0 : OwnR (w.alloc (.cells #[] 97)) w.heap.size 97 3 (.slice (some ⟨w.heap.size, 0, none⟩) 0 0) 0 [] := .inl ⟨rfl, rfl, _, rfl⟩
 cases a with
 | none =>
  have hvs : vs = [] := by
   apply Classical.byContradiction
   intro hne
   obtain ⟨b, off, e, _⟩ := hsl hne
   cases e
  have he : es = [] := List.eq_nil_of_length_eq_zero (by rw [hvs] at hvl; simp at hvl; omega)
  subst he
  have qT : ∀ (w : World) (a : Option Addr) (n c : Nat), (binOp .eql 69 (.slice a n c) (.slice none 0 0)).run Tryz.prog w = .ok (.bool a.isNone) w := fun w a n c => Lib.run_eql_slice_nil w _ _ a n c 0 0 (show Tryz.prog.underlying 69 = some (.slice 97) by kernel_rfl)
  go_enter Tryz.func58, Tryz.ntmps58
  go_wp2_with fail
  go_ret
  exact RetD.of (Below.refl _ _) (.list none 0 0 3 [] [] rfl (Nat.le_refl _) (by decide) hs rfl (.inl rfl) (by simp))
 | some p =>
  have qT : ∀ (w : World) (a : Option Addr) (n c : Nat), (binOp .eql 69 (.slice a n c) (.slice none 0 0)).run Tryz.prog w = .ok (.bool a.isNone) w := fun w a n c => Lib.run_eql_slice_nil w _ _ a n c 0 0 (show Tryz.prog.underlying 69 = some (.slice 97) by kernel_rfl)
  go_enter Tryz.func58, Tryz.ntmps58
  go_wp2_with (at_builtin; refine app_slR _ rfl (.tmp 5) (.tmp 6) 69 rfl ei23 w.heap.size _ 0 [] rfl ho0 w.heap.size (some p) es.length c vs rfl hs0 hvl h1 (by simp only [maxLen]; omega) (by omega) (by simp) ?_; intro v w1 ho1 hg1 hb1)
  go_ret
  have hb : Below w.heap.size w w1 := ((Below.refl _ w).alloc (Nat.le_refl _) _).trans hb1
  refine RetD.of hb (own_den ho1 (by simp) (by decide) hs (fun b o h1 h2 => .inr ⟨h1, h2⟩) (by simpa using h1) fun i v x hv hxx => ?_)
  exact hk _ _ _ (List.mem_of_getElem? hxx) hb (hx i v x (by simpa using hv) hxx)

theorem clone46_any (es : List D) (F : Nat → Nat → Prop) (w : World) (v : Value) (hlt : Lt F w) (hd : Den0 F w v (.list es)) (hs : ∀ e ∈ es, (dcells e).length = 3) (hL : es.length ≤ 1000000000) :
  Calls Tryz.prog 58 #[v] w (RetD F w (.list es)) :=
 clone46_gen es F F w v hlt hd (Keep.same hlt) hs hL

theorem ei24 : EI Tryz.prog 24 9 1 16 := EI.mk (z := .string ⟨#[]⟩) (by kernel_rfl) (by kernel_rfl) rfl (by decide)
theorem clone47_gen (es : List D) (F G : Nat → Nat → Prop) (w : World) (v : Value) (hlt : Lt F w) (hd : Den0 F w v (.list es)) (hk : Keep F G w es) (hs : ∀ e ∈ es, (dcells e).length = 1) (hL : es.length ≤ 1000000000) :
  Calls Tryz.prog 59 #[v] w (RetD G w (.list es)) := by
 obtain ⟨a, c, vs, rfl, hc, hvl, hsl, h1, hx⟩ := list_sl hlt hd hs
 have hs0 := hsl.alloc (Nat.le_refl _) (.cells #[] 9)
 have ho0 : OwnR (w.alloc (.cells #[] 9)) w.heap.size 9 1 (.slice (some ⟨w.heap.size, 0, none⟩) 0 0) 0 [] := .inl ⟨rfl, rfl, _, rfl⟩
 cases a with
 | none =>
  have hvs : vs = [] := by
   apply Classical.byContradiction
   intro hne
   obtain ⟨b, off, e, _⟩ := hsl hne
   cases e
  have he : es = [] := List.eq_nil_of_length_eq_zero (by rw [hvs] at hvl; simp at hvl; omega)
  subst he
  have qT : ∀ (w : World) (a : Option Addr) (n c : Nat), (binOp .eql 24 (.slice a n c) (.slice none 0 0)).run Tryz.prog w = .ok (.bool a.isNone) w := fun w a n c => Lib.run_eql_slice_nil w _ _ a n c 0 0 (show Tryz.prog.underlying 24 = some (.slice 9) by kernel_rfl)
  go_enter Tryz.func59, Tryz.ntmps59
  go_wp2_with fail
  go_ret
  exact RetD.of (Below.refl _ _) (.list none 0 0 1 [] [] rfl (Nat.le_refl _) (by decide) hs rfl (.inl rfl) (by simp))
 | some p =>
  have qT : ∀ (w : World) (a : Option Addr) (n c : Nat), (binOp .eql 24 (.slice a n c) (.slice none 0 0)).run Tryz.prog w = .ok (.bool a.isNone) w := fun w a n c => Lib.run_eql_slice_nil w _ _ a n c 0 0 (show Tryz.prog.underlying 24 = some (.slice 9) by kernel_rfl)
  go_enter Tryz.func59, Tryz.ntmps59
  go_wp2_with (at_builtin; refine app_slR _ rfl (.tmp 5) (.tmp 6) 24 rfl ei24 w.heap.size _ 0 [] rfl ho0 w.heap.size (some p) es.length c vs rfl hs0 hvl h1 (by simp only [maxLen]; omega) (by omega) (by simp) ?_; intro v w1 ho1 hg1 hb1)
  go_ret
  have hb : Below w.heap.size w w1 := ((Below.refl _ w).alloc (Nat.le_refl _) _).trans hb1
  refine RetD.of hb (own_den ho1 (by simp) (by decide) hs (fun b o h1 h2 => .inr ⟨h1, h2⟩) (by simpa using h1) fun i v x hv hxx => ?_)
  exact hk _ _ _ (List.mem_of_getElem? hxx) hb (hx i v x (by simpa using hv) hxx)
theorem clone47_any (es : List D) (F : Nat → Nat → Prop) (w : World) (v : Value) (hlt : Lt F w) (hd : Den0 F w v (.list es)) (hs : ∀ e ∈ es, (dcells e).length = 1) (hL : es.length ≤ 1000000000) :
  Calls Tryz.prog 59 #[v] w (RetD F w (.list es)) :=
 clone47_gen es F F w v hlt hd (Keep.same hlt) hs hL

end Go.Av
namespace Go.Proofs.YtcogfddcdpgpkaaGreatDoor
open Go.RowKit

abbrev Ge (w w' : World) : Prop := Below w.heap.size w w'
section
variable {w w' w'' : World} {o o' : Obj}
theorem Ge.new (h : Ge w w') (o : Obj) : Ge w (w'.alloc o) := Below.alloc h h.size o
theorem Ge.drew (h : Ge w w') : Ge w w'.drew := Below.drew h
theorem Ge.drewN (h : Ge w w') (n : Nat) : Ge w (w'.drewN n) := below_drewN h n
theorem Ge.tr (h : Ge w w') (h' : Ge w' w'') : Ge w w'' := Below.trans h (h'.mono h.size)
theorem Sl.ge {B : Nat} {a : Option Addr} {xs : List Value} (h : Sl w B a xs) (hB : B ≤ w.heap.size) (hg : Ge w w') : Sl w' B a xs := h.below (hg.mono hB)
end

section
variable {P : Program} {ops : Array Oper} {rest : List Oper} {o : Oper} {a : Act} {Q : Exit → Act → World → Prop}
end
end Go.Proofs.YtcogfddcdpgpkaaGreatDoor
namespace Go.Av
open Go.Proofs Go.RowKit Go.Proofs.YtcogfddcdpgpkaaGreatDoor
theorem den_ge {F : Nat → Nat → Prop} {w W : World} {v : Value} {d : D} (h : Den0 F w v d) (hlt : Lt F w) (hb : Ge w W) : Den0 F W v d :=
 h.ext (S := fun _ => False) ⟨hb.os, hb.tape, hb.output, hb.size, fun b h _ => hb.block b h, fun b o h => h, fun b o h => by unfold World.cell?; rw [hb.block b (hlt b o h)], fun b es c hf hm => (hb.block b (hlt b 0 hf)).trans hm⟩
theorem lt_ge {F : Nat → Nat → Prop} {w W : World} (hlt : Lt F w) (hb : Ge w W) : Lt F W := fun b o h => Nat.lt_of_lt_of_le (hlt b o h) hb.size
def nx (F : Nat → Nat → Prop) (m : Nat) (w' : World) : Nat → Nat → Prop := fun b o => F b o ∨ (m ≤ b ∧ b < w'.heap.size)
theorem nx_keep {F : Nat → Nat → Prop} {w W W2 : World} {m m' A : Nat} {v : Value} {d : D} (h : Den0 (nx F m W) W v d) (hlt : Lt F w) (hW : w.heap.size ≤ W.heap.size) (hA : w.heap.size ≤ A) (hA2 : A < m) (hm : m' ≤ m) (hg : W.grownBy W2 (some A)) : Den0 (nx F m' W2) W2 v d := by
 have hne : ∀ b o, nx F m W b o → b < W.heap.size ∧ b ≠ A := by
  rintro b o (h | h)
  ·have := hlt b o h
   exact ⟨by omega, by omega⟩
  ·exact ⟨h.2, by omega⟩
 refine h.ext (S := fun b => b = A) ⟨hg.os, hg.tape, hg.output, hg.size, fun b h hn => hg.block b h (fun e => hn (by injection e)), fun b o h => ?_, fun b o h => ?_, fun b es c hf hm => (hg.block b (hne b 0 hf).1 (fun e => (hne b 0 hf).2 (by injection e))).trans hm⟩
 ·exact h.imp id fun h => ⟨by omega, Nat.lt_of_lt_of_le h.2 hg.size⟩
 ·unfold World.cell?
  rw [hg.block b (hne b o h).1 (fun e => (hne b o h).2 (by injection e))]
theorem nx_of_nw {F : Nat → Nat → Prop} {W W' : World} {m : Nat} {v : Value} {d : D} (h : Den0 (nw F W W') W' v d) (hm : m ≤ W.heap.size) : Den0 (nx F m W') W' v d :=
 h.grow fun b o h => h.imp id fun h => ⟨Nat.le_trans hm h.1, h.2⟩
theorem grown_refl (w : World) (r : Option Nat) : w.grownBy w r := ⟨rfl, rfl, rfl, Nat.le_refl _, fun _ _ _ => rfl⟩
theorem grown_ge {a w w' : World} {r : Option Nat} (h : a.grownBy w r) (k : Ge w w') : a.grownBy w' r :=
 ⟨k.os.trans h.os, k.tape.trans h.tape, k.output.trans h.output, Nat.le_trans h.size k.size, fun b hb hne => (k.block b (Nat.lt_of_lt_of_le hb h.size)).trans (h.block b hb hne)⟩
theorem ge_put {w w' : World} (h : Ge w w') {p : Addr} (hp : w.heap.size ≤ p.block) (v : Value) : Ge w (w'.setCell p v) := Below.setCell h hp v
theorem below_of_grown_row {w W W2 : World} {B : Nat} (h : Ge w W) (hg : W.grownBy W2 (some B)) (hB : w.heap.size ≤ B) : Ge w W2 :=
 ⟨hg.os.trans h.os, hg.tape.trans h.tape, hg.output.trans h.output, Nat.le_trans h.size hg.size, fun b hb => (hg.block b (Nat.lt_of_lt_of_le hb h.size) (fun e => by injection e with e; omega)).trans (h.block b hb)⟩
theorem clone46_ge {es : List D} {F G : Nat → Nat → Prop} {w W : World} {v : Value} (hlt : Lt F w) (hd : Den0 F w v (.list es)) (hk : ∀ W, Ge w W → Keep F G W es) (hs : ∀ e ∈ es, (dcells e).length = 3) (hL : es.length ≤ 1000000000) (hG : Ge w W) :
  Calls Tryz.prog 58 #[v] W fun e W' => ∃ x n c, e = .returned (.slice x n c) ∧ Ge W W' ∧ Den0 (nw G W W') W' (.slice x n c) (.list es) := by
 refine (clone46_gen es F G W v (lt_ge hlt hG) (den_ge hd hlt hG) (hk W hG) hs hL).mono ?_
 rintro e W' ⟨v', rfl, hb, hv⟩
 have h := (hv (fun _ => 0) fun _ _ => 0).list_
 cases h with
 | list a n c sz es vs h1 h2 h3 h4 h5 h6 h7 => exact ⟨a, n, c, rfl, hb, .list a n c sz es vs h1 h2 h3 h4 h5 h6 h7⟩
theorem clone47_ge {es : List D} {F G : Nat → Nat → Prop} {w W : World} {v : Value} (hlt : Lt F w) (hd : Den0 F w v (.list es)) (hk : ∀ W, Ge w W → Keep F G W es) (hs : ∀ e ∈ es, (dcells e).length = 1) (hL : es.length ≤ 1000000000) (hG : Ge w W) :
  Calls Tryz.prog 59 #[v] W fun e W' => ∃ x n c, e = .returned (.slice x n c) ∧ Ge W W' ∧ Den0 (nw G W W') W' (.slice x n c) (.list es) := by
 refine (clone47_gen es F G W v (lt_ge hlt hG) (den_ge hd hlt hG) (hk W hG) hs hL).mono ?_
 rintro e W' ⟨v', rfl, hb, hv⟩
 have h := (hv (fun _ => 0) fun _ _ => 0).list_
 cases h with
 | list a n c sz es vs h1 h2 h3 h4 h5 h6 h7 => exact ⟨a, n, c, rfl, hb, .list a n c sz es vs h1 h2 h3 h4 h5 h6 h7⟩
theorem copied_gen (p k : Int) (sp nm tx : ByteArray) (v4 v5 : Value) (la ls : List D) (F G : Nat → Nat → Prop) (w : World) (hlt : Lt F w) (hltG : Lt G w) (hk4 : ∀ W, Ge w W → Keep F G W la) (hk5 : ∀ W, Ge w W → Keep F G W ls) (hd4 : Den0 F w v4 (.list la)) (hd5 : Den0 F w v5 (.list ls))
  (hs4 : ∀ e ∈ la, (dcells e).length = 3) (hs5 : ∀ e ∈ ls, (dcells e).length = 1) (hL4 : la.length ≤ 1000000000) (hL5 : ls.length ≤ 1000000000) (o4 : v4.oneCell' = true) (o5 : v5.oneCell' = true) :
  Calls Tryz.prog 32 #[.agg #[.int .i64 p, .int .i64 k, .string sp, .string nm, v4, v5, .string tx]] w fun e w' => ∃ u4 u5, e = .returned (.agg #[.int .i64 p, .int .i64 k, .string sp, .string nm, u4, u5, .string tx]) ∧ Ge w w' ∧
   Den0 (nw G w w') w' u4 (.list la) ∧ Den0 (nw G w w') w' u5 (.list ls) ∧ u4.oneCell' = true ∧ u5.oneCell' = true := by
 have hW0 : ∀ o1 o2, Ge w ((w.alloc o1).alloc o2) := fun o1 o2 => ((Below.refl _ w).alloc (Nat.le_refl _) o1).alloc (by simp) o2
 have c46 := fun v W => clone46_ge (es := la) (F := F) (G := G) (w := w) (v := v) (W := W)
 have c47 := fun v W => clone47_ge (es := ls) (F := F) (G := G) (w := w) (v := v) (W := W)
 go_enter Tryz.func32, Tryz.ntmps32
 go_wp2_with fail
 have G0 := hW0 (.cells #[.int .i64 p, .int .i64 k, .string sp, .string nm, v4, v5, .string tx] 71) (.cells #[.int .i64 0, .int .i64 0, .string ⟨#[]⟩, .string ⟨#[]⟩, .slice none 0 0, .slice none 0 0, .string ⟨#[]⟩] 71)
 have B0 : Bk ((w.alloc (.cells #[.int .i64 p, .int .i64 k, .string sp, .string nm, v4, v5, .string tx] 71)).alloc (.cells #[.int .i64 0, .int .i64 0, .string ⟨#[]⟩, .string ⟨#[]⟩, .slice none 0 0, .slice none 0 0, .string ⟨#[]⟩] 71)) w.heap.size 71 #[.int .i64 p, .int .i64 k, .string sp, .string nm, v4, v5, .string tx] := (Bk.new _ _ _).alloc _
 have Z0 : Bk ((w.alloc (.cells #[.int .i64 p, .int .i64 k, .string sp, .string nm, v4, v5, .string tx] 71)).alloc (.cells #[.int .i64 0, .int .i64 0, .string ⟨#[]⟩, .string ⟨#[]⟩, .slice none 0 0, .slice none 0 0, .string ⟨#[]⟩] 71)) (w.heap.size + 1) 71 #[.int .i64 0, .int .i64 0, .string ⟨#[]⟩, .string ⟨#[]⟩, .slice none 0 0, .slice none 0 0, .string ⟨#[]⟩] := by
  have := Bk.new (w.alloc (.cells #[.int .i64 p, .int .i64 k, .string sp, .string nm, v4, v5, .string tx] 71)) 71 #[.int .i64 0, .int .i64 0, .string ⟨#[]⟩, .string ⟨#[]⟩, .slice none 0 0, .slice none 0 0, .string ⟨#[]⟩]
  simpa using this
 go_region_law (first
  | (go_simp; go_at_call 58; refine (c46 _ _ hlt hd4 hk4 hs4 hL4 (by first | exact G0 | exact G0.drew)).mono ?_; rintro e W4 ⟨x4, n4, e4, rfl, hb4, hv4⟩; have G4 := Ge.tr (by first | exact G0 | exact G0.drew) hb4; have B4 := Bk.below (by first | exact B0 | exact B0.drew) hb4 (by first | exact B0.lt | exact B0.drew.lt); have q4 := B4.cell 5; have q7 := B4.cell 4; have q5 := B4.free 4; have q6 := B4.free 5; have Z4 := Bk.below (by first | exact Z0 | exact Z0.drew) hb4 (by first | exact Z0.lt | exact Z0.drew.lt); simp only [List.getElem?_toArray, List.getElem?_cons_succ, List.getElem?_cons_zero] at q4 q7)
  | (go_simp; go_at_call 59; refine (c47 _ _ hlt hd5 hk5 hs5 hL5 (by first | exact G4 | exact G4.drew | exact ge_put G4 (by simp) _)).mono ?_; rintro e W5 ⟨x5, n5, e5, rfl, hb5, hv5⟩; have B5 := Bk.below (by first | exact B4 | exact B4.put _ _) hb5 (by first | (simp; exact B4.lt) | exact B4.lt); have s6 := B5.cell 4; have s7 := B5.cell 5; simp at s6 s7; have s4 := B5.free 4; have s5 := B5.free 5; have Z5 := Bk.below (by first | exact Z4 | exact Z4.other (by simp) _) hb5 (by first | exact Z4.lt | (simp; exact Z4.lt))))
 all_goals (
  have BF := (B5.put 4 (.slice x4 n4 e4)).put 5 (.slice x5 n5 e5)
  have ZF := (Z5.other (p := ⟨w.heap.size, 4, none⟩) (by simp) (.slice x4 n4 e4)).other (p := ⟨w.heap.size, 5, none⟩) (by simp) (.slice x5 n5 e5)
  have GA := grown_put (grown_put (grown_refl W5 (some w.heap.size)) (p := ⟨w.heap.size, 4, none⟩) rfl (.slice x4 n4 e4)) (p := ⟨w.heap.size, 5, none⟩) rfl (.slice x5 n5 e5)
  have hsz : w.heap.size < W4.heap.size := B4.lt
  have G5 : Ge w W5 := G4.tr hb5
  have z4 : w.heap.size + 2 ≤ W4.heap.size := Nat.le_trans (by first | (show _ ≤ ((w.heap.push _).push _).size; simp; done) | simp) hb4.size
  have v5F := nx_keep (A := w.heap.size) (nx_of_nw (m := w.heap.size + 2) hv5 (by first | exact z4 | (simp; exact z4))) hltG G5.size (Nat.le_refl _) (by omega) (Nat.le_refl _) GA
  have v4F := nx_keep (A := w.heap.size) (nx_of_nw (m := w.heap.size + 2) hv4 (by simp)) hltG G4.size (Nat.le_refl _) (by omega) (Nat.le_refl _) (grown_put (grown_put (grown_ge (by first | exact grown_refl W4 _ | exact grown_put (grown_refl W4 (some w.heap.size)) (p := ⟨w.heap.size, 4, none⟩) rfl (.slice x4 n4 e4)) hb5) (p := ⟨w.heap.size, 4, none⟩) rfl (.slice x4 n4 e4)) (p := ⟨w.heap.size, 5, none⟩) rfl (.slice x5 n5 e5))
  have GF : Ge w ((W5.setCell ⟨w.heap.size, 4, none⟩ (.slice x4 n4 e4)).setCell ⟨w.heap.size, 5, none⟩ (.slice x5 n5 e5)) := ge_put (ge_put G5 (by simp) _) (by simp) _
  clear GA B5 Z5 z4 s4 s5 s6 s7 q4 q5 q6 q7 B4 Z4 hb5 hv5 hv4 hb4 G5 G4
  generalize ((W5.setCell ⟨w.heap.size, 4, none⟩ (.slice x4 n4 e4)).setCell ⟨w.heap.size, 5, none⟩ (.slice x5 n5 e5)) = W6 at *
  have b0 := BF.cell 0; have b1 := BF.cell 1; have b2 := BF.cell 2; have b3 := BF.cell 3; have b4 := BF.cell 4; have b5 := BF.cell 5; have b6 := BF.cell 6
  have z0 := ZF.cell 0; have z1 := ZF.cell 1; have z2 := ZF.cell 2; have z3 := ZF.cell 3; have z4 := ZF.cell 4; have z5 := ZF.cell 5; have z6 := ZF.cell 6
  have f0 := ZF.free 0; have f1 := ZF.free 1; have f2 := ZF.free 2; have f3 := ZF.free 3; have f4 := ZF.free 4; have f5 := ZF.free 5; have f6 := ZF.free 6
  simp at b0 b1 b2 b3 b4 b5 b6 z0 z1 z2 z3 z4 z5 z6)
 all_goals go_wp2_with fail
 all_goals (
  have BZ := ((((((ZF.put 0 (.int .i64 p)).put 1 (.int .i64 k)).put 2 (.string sp)).put 3 (.string nm)).put 4 (.slice x4 n4 e4)).put 5 (.slice x5 n5 e5)).put 6 (.string tx)
  have GZ := grown_put (grown_put (grown_put (grown_put (grown_put (grown_put (grown_put (grown_refl W6 (some (w.heap.size + 1))) (p := ⟨w.heap.size + 1, 0, none⟩) rfl (.int .i64 p)) (p := ⟨w.heap.size + 1, 1, none⟩) rfl (.int .i64 k)) (p := ⟨w.heap.size + 1, 2, none⟩) rfl (.string sp)) (p := ⟨w.heap.size + 1, 3, none⟩) rfl (.string nm)) (p := ⟨w.heap.size + 1, 4, none⟩) rfl (.slice x4 n4 e4)) (p := ⟨w.heap.size + 1, 5, none⟩) rfl (.slice x5 n5 e5)) (p := ⟨w.heap.size + 1, 6, none⟩) rfl (.string tx)
  have v5Z := nx_keep (m' := w.heap.size) v5F hltG GF.size (by omega) (by omega) (by omega) GZ
  have v4Z := nx_keep (m' := w.heap.size) v4F hltG GF.size (by omega) (by omega) (by omega) GZ
  have GY : Ge w (((((((W6.setCell ⟨w.heap.size + 1, 0, none⟩ (.int .i64 p)).setCell ⟨w.heap.size + 1, 1, none⟩ (.int .i64 k)).setCell ⟨w.heap.size + 1, 2, none⟩ (.string sp)).setCell ⟨w.heap.size + 1, 3, none⟩ (.string nm)).setCell ⟨w.heap.size + 1, 4, none⟩ (.slice x4 n4 e4)).setCell ⟨w.heap.size + 1, 5, none⟩ (.slice x5 n5 e5)).setCell ⟨w.heap.size + 1, 6, none⟩ (.string tx)) := below_of_grown_row GF GZ (by omega)
  clear GZ GF b0 b1 b2 b3 b4 b5 b6 z0 z1 z2 z3 z4 z5 z6 f0 f1 f2 f3 f4 f5 f6 BF ZF
  generalize (((((((W6.setCell ⟨w.heap.size + 1, 0, none⟩ (.int .i64 p)).setCell ⟨w.heap.size + 1, 1, none⟩ (.int .i64 k)).setCell ⟨w.heap.size + 1, 2, none⟩ (.string sp)).setCell ⟨w.heap.size + 1, 3, none⟩ (.string nm)).setCell ⟨w.heap.size + 1, 4, none⟩ (.slice x4 n4 e4)).setCell ⟨w.heap.size + 1, 5, none⟩ (.slice x5 n5 e5)).setCell ⟨w.heap.size + 1, 6, none⟩ (.string tx)) = W7 at *
  have z0 := BZ.cell 0; have z1 := BZ.cell 1; have z2 := BZ.cell 2; have z3 := BZ.cell 3; have z4 := BZ.cell 4; have z5 := BZ.cell 5; have z6 := BZ.cell 6
  simp at z0 z1 z2 z3 z4 z5 z6
  refine ⟨rfl, .agg #[.int .i64 p, .int .i64 k, .string sp, .string nm, .slice x4 n4 e4, .slice x5 n5 e5, .string tx], ?_, _, _, rfl, GY, v4Z, v5Z, rfl, rfl⟩
  simp [results, go_sem, z0, z1, z2, z3, z4, z5, z6, Tryz.f32])
theorem copied_any (p k : Int) (sp nm tx : ByteArray) (v4 v5 : Value) (la ls : List D) (F : Nat → Nat → Prop) (w : World) (hlt : Lt F w) (hd4 : Den0 F w v4 (.list la)) (hd5 : Den0 F w v5 (.list ls))
  (hs4 : ∀ e ∈ la, (dcells e).length = 3) (hs5 : ∀ e ∈ ls, (dcells e).length = 1) (hL4 : la.length ≤ 1000000000) (hL5 : ls.length ≤ 1000000000) (o4 : v4.oneCell' = true) (o5 : v5.oneCell' = true) :
  Calls Tryz.prog 32 #[.agg #[.int .i64 p, .int .i64 k, .string sp, .string nm, v4, v5, .string tx]] w fun e w' => ∃ u4 u5, e = .returned (.agg #[.int .i64 p, .int .i64 k, .string sp, .string nm, u4, u5, .string tx]) ∧ Ge w w' ∧
   Den0 (nw F w w') w' u4 (.list la) ∧ Den0 (nw F w w') w' u5 (.list ls) ∧ u4.oneCell' = true ∧ u5.oneCell' = true :=
 copied_gen p k sp nm tx v4 v5 la ls F F w hlt hlt (fun W hG => Keep.same (lt_ge hlt hG)) (fun W hG => Keep.same (lt_ge hlt hG)) hd4 hd5 hs4 hs5 hL4 hL5 o4 o5
end Go.Av
namespace Go.Av
open Go.Proofs Go.RowKit Go.Proofs.YtcogfddcdpgpkaaGreatDoor
theorem ei22 : EI Tryz.prog 22 71 7 112 := EI.mk (z := .agg #[.int .i64 0, .int .i64 0, .string ⟨#[]⟩, .string ⟨#[]⟩, .slice none 0 0, .slice none 0 0, .string ⟨#[]⟩]) (by kernel_rfl) (by kernel_rfl) rfl (by decide)
def isNode : D → Bool
 | .agg [.int .i64 _, .int .i64 _, .str _, .str _, .list as_, .list ss, .str _] => as_.all (fun e => (dcells e).length == 3) && ss.all (fun e => (dcells e).length == 1) && decide (as_.length ≤ 1000000) && decide (ss.length ≤ 1000000)
 | _ => false
theorem isNode_inv {d : D} (h : isNode d = true) : ∃ p k sp nm la ls tx, d = .agg [.int .i64 p, .int .i64 k, .str sp, .str nm, .list la, .list ls, .str tx] ∧ (∀ e ∈ la, (dcells e).length = 3) ∧ (∀ e ∈ ls, (dcells e).length = 1) ∧ la.length ≤ 1000000 ∧ ls.length ≤ 1000000 := by
 unfold isNode at h
 split at h
 ·simp only [Bool.and_eq_true, List.all_eq_true, beq_iff_eq, decide_eq_true_eq] at h
  exact ⟨_, _, _, _, _, _, _, rfl, h.1.1.1, h.1.1.2, h.1.2, h.2⟩
 ·cases h
theorem isNode_len {es : List D} (h : ∀ e ∈ es, isNode e = true) : ∀ e ∈ es, (dcells e).length = 7 := fun e he => by
 obtain ⟨p, k, sp, nm, la, ls, tx, rfl, _⟩ := isNode_inv (h e he)
 rfl
def RowN (F : Nat → Nat → Prop) (es : List D) (g : Nat) (wr : World) : Prop :=
 ∃ cur : Array Value, wr.heap[g]? = some (.cells cur 71 (0, 0)) ∧ ∀ (m : Nat) (x : D), (flat es)[m]? = some x → ∃ v : Value, cur[m]? = some v ∧ v.oneCell' = true ∧ Den0 (nx F (g + 1) wr) wr v x
theorem RowN.ge {F : Nat → Nat → Prop} {es : List D} {g : Nat} {w wr W : World} (h : RowN F es g wr) (hlt : Lt F w) (hw : w.heap.size ≤ wr.heap.size) (hb : Ge wr W) : RowN F es g W := by
 obtain ⟨cur, h1, h2⟩ := h
 refine ⟨cur, (hb.block g (Array.getElem?_eq_some_iff.1 h1).1).trans h1, fun m x hx => ?_⟩
 obtain ⟨v, h3, h4, h5⟩ := h2 m x hx
 refine ⟨v, h3, h4, h5.ext (S := fun _ => False) ⟨hb.os, hb.tape, hb.output, hb.size, fun b h _ => hb.block b h, fun b o h => h.imp id fun h => ⟨h.1, Nat.lt_of_lt_of_le h.2 hb.size⟩, fun b o h => ?_, fun b es c hf hm => ?_⟩⟩
 ·have hb1 : b < wr.heap.size := h.elim (fun h => Nat.lt_of_lt_of_le (hlt b o h) hw) fun h => h.2
  unfold World.cell?
  rw [hb.block b hb1]
 ·have hb1 : b < wr.heap.size := hf.elim (fun h => Nat.lt_of_lt_of_le (hlt b 0 h) hw) fun h => h.2
  exact (hb.block b hb1).trans hm
theorem RowN.put {F : Nat → Nat → Prop} {es : List D} {g m : Nat} {w wr : World} {v : Value} {x : D} (h : RowN F es g wr) (hlt : Lt F w) (hw : w.heap.size ≤ wr.heap.size) (hg : w.heap.size ≤ g) (hx : (flat es)[m]? = some x) (h1 : v.oneCell' = true) (hv : Den0 (nx F (g + 1) wr) wr v x) : RowN F es g (wr.setCell ⟨g, m, none⟩ v) := by
 obtain ⟨cur, h2, h3⟩ := h
 have hG : wr.grownBy (wr.setCell ⟨g, m, none⟩ v) (some g) := grown_put (grown_refl wr _) rfl v
 have keep : ∀ {u y}, Den0 (nx F (g + 1) wr) wr u y → Den0 (nx F (g + 1) (wr.setCell ⟨g, m, none⟩ v)) (wr.setCell ⟨g, m, none⟩ v) u y := fun hu => nx_keep hu hlt hw hg (Nat.lt_succ_self g) (Nat.le_refl _) hG
 refine ⟨cur.setIfInBounds m v, heap_setCell_same wr g m cur 71 v h2, fun m' x' hx' => ?_⟩
 obtain ⟨u, h4, h5, h6⟩ := h3 m' x' hx'
 by_cases hm : m' = m
 ·subst hm
  rw [hx] at hx'
  obtain rfl := Option.some.inj hx'
  have hlt' := (Array.getElem?_eq_some_iff.1 h4).1
  exact ⟨v, by simp [hlt'], h1, keep hv⟩
 ·exact ⟨u, by rw [Array.getElem?_setIfInBounds_ne (fun e => hm e.symm)]; exact h4, h5, keep h6⟩
theorem RowN.cell {F : Nat → Nat → Prop} {es : List D} {g : Nat} {wr : World} (h : RowN F es g wr) {m : Nat} {x : D} (hx : (flat es)[m]? = some x) : ∃ v, wr.cell? ⟨g, m, none⟩ = some v ∧ v.oneCell' = true ∧ Den0 (nx F (g + 1) wr) wr v x ∧ wr.frozen? ⟨g, m, none⟩ = false := by
 obtain ⟨cur, h1, h2⟩ := h
 obtain ⟨v, h3, h4, h5⟩ := h2 m x hx
 exact ⟨v, by rw [cell_of_row wr g m cur 71 (0, 0) h1]; exact h3, h4, h5, frozen_of_row wr g m cur 71 h1⟩
end Go.Av
namespace Go.Av
open Go.Proofs Go.RowKit Go.Proofs.YtcogfddcdpgpkaaGreatDoor Go.Maps
def zf (F : Nat → Nat → Prop) (Z : Nat → Prop) : Nat → Nat → Prop := fun b o => F b o ∨ Z b
def apart (v u : Value) : Prop := v.ownBlock = none ∨ v.ownBlock ≠ u.ownBlock
theorem apart.symm {v u : Value} (h : apart v u) : apart u v := by
 unfold apart at *
 cases hu : u.ownBlock with
 | none => exact .inl rfl
 | some b =>
  refine .inr fun e => ?_
  rcases h with h | h
  ·rw [h] at e; cases e
  ·exact h (by rw [hu]; exact e.symm)
structure NS (F : Nat → Nat → Prop) (w : World) (bm bt : Nat) (Z : Nat → Prop) (vN vE vP : Value) (ns : List D) (zE zP : List Int) (wr : World) : Prop where
 ge : Ge w wr
 hm : w.heap.size ≤ bm
 ht : bt = bm + 1
 htw : bt < wr.heap.size
 z : ∀ b, Z b → bt < b ∧ b < wr.heap.size ∧ vN.ownBlock ≠ some b ∧ vE.ownBlock ≠ some b ∧ vP.ownBlock ≠ some b
 oN : ∃ xs, wr.ownsRow (bt + 1) 71 7 vN ns.length xs ∧ (∀ u ∈ xs, u.oneCell' = true) ∧ ∀ (m : Nat) (v : Value) (x : D), xs[m]? = some v → (flat ns)[m]? = some x → Den0 (zf F Z) wr v x
 oE : wr.ownsInts (bt + 1) 3 .i64 vE zE
 oP : wr.ownsInts (bt + 1) 3 .i64 vP zP
 aNE : apart vN vE
 aNP : apart vN vP
 aEP : apart vE vP
section
variable {F : Nat → Nat → Prop} {w : World} {bm bt : Nat} {Z : Nat → Prop} {vN vE vP : Value} {ns : List D} {zE zP : List Int} {wr W : World} {r : Option Nat}
theorem zden_keep (hlt : Lt F w) (hge : Ge w wr) (hz : ∀ b, Z b → b < wr.heap.size ∧ some b ≠ r) (hr : ∀ b, r = some b → w.heap.size ≤ b) (hg : wr.grownBy W r) {v : Value} {x : D} (h : Den0 (zf F Z) wr v x) : Den0 (zf F Z) W v x := by
 have hne : ∀ b o, zf F Z b o → b < wr.heap.size ∧ some b ≠ r := by
  rintro b o (h | h)
  ·have h1 := hlt b o h
   have h2 := hge.size
   refine ⟨by omega, fun e => ?_⟩
   have := hr b e.symm
   omega
  ·exact hz b h
 refine h.ext (S := fun b => some b = r) ⟨hg.os, hg.tape, hg.output, hg.size, fun b h hn => hg.block b h hn, fun b o h => h, fun b o h => ?_, fun b es c hf hm => (hg.block b (hne b 0 hf).1 (hne b 0 hf).2).trans hm⟩
 unfold World.cell?
 rw [hg.block b (hne b o h).1 (hne b o h).2]
def Off (bm bt : Nat) (Z : Nat → Prop) (vN vE vP : Value) (b : Nat) : Prop := b = bt ∨ b = bm ∨ (bt < b ∧ ¬ Z b ∧ vN.ownBlock ≠ some b ∧ vE.ownBlock ≠ some b ∧ vP.ownBlock ≠ some b)
theorem own_off {base size n : Nat} {e : TypeId} {v : Value} {xs : List Value} (ho : wr.ownsRow (bt + 1) e size v n xs) (hr : ∀ b, r = some b → b ≤ bt ∨ v.ownBlock ≠ some b) : v.ownBlock = none ∨ v.ownBlock ≠ r := by
 cases hv : v.ownBlock with
 | none => exact .inl rfl
 | some g =>
  refine .inr fun e => ?_
  rcases hr g e.symm with h | h
  ·have := (ho.lt g hv).1; omega
  ·exact h hv
theorem ge_grown (h : Ge w wr) (hg : wr.grownBy W r) (hr : ∀ b, r = some b → w.heap.size ≤ b) : Ge w W :=
 ⟨hg.os.trans h.os, hg.tape.trans h.tape, hg.output.trans h.output, Nat.le_trans h.size hg.size, fun b hb => (hg.block b (Nat.lt_of_lt_of_le hb h.size) (fun e => by have := hr b e.symm; omega)).trans (h.block b hb)⟩
theorem NS.keep (hlt : Lt F w) (h : NS F w bm bt Z vN vE vP ns zE zP wr) (hg : wr.grownBy W r) (hr : ∀ b, r = some b → Off bm bt Z vN vE vP b) : NS F w bm bt Z vN vE vP ns zE zP W := by
 have hm := h.hm
 have ht := h.ht
 have hrw : ∀ b, r = some b → w.heap.size ≤ b := fun b hb => by rcases hr b hb with h1 | h1 | h1 <;> omega
 have hz : ∀ b, Z b → b < wr.heap.size ∧ some b ≠ r := fun b hb => ⟨(h.z b hb).2.1, fun e => by
  have := (h.z b hb).1
  rcases hr b e.symm with h1 | h1 | h1
  ·omega
  ·omega
  ·exact h1.2.1 hb⟩
 have own : ∀ {e : TypeId} {size n : Nat} {v : Value} {xs : List Value}, (v = vN ∨ v = vE ∨ v = vP) → wr.ownsRow (bt + 1) e size v n xs → W.ownsRow (bt + 1) e size v n xs := fun hv ho => ho.kept hg (own_off (base := 0) ho fun b hb => by
  rcases hr b hb with h1 | h1 | h1
  ·exact .inl (by omega)
  ·exact .inl (by omega)
  ·rcases hv with rfl | rfl | rfl
   ·exact .inr h1.2.2.1
   ·exact .inr h1.2.2.2.1
   ·exact .inr h1.2.2.2.2)
 refine ⟨ge_grown h.ge hg hrw, hm, ht, Nat.lt_of_lt_of_le h.htw hg.size, fun b hb => ⟨(h.z b hb).1, Nat.lt_of_lt_of_le (h.z b hb).2.1 hg.size, (h.z b hb).2.2⟩, ?_, ⟨own (.inr (.inl rfl)) h.oE.1, h.oE.2⟩, ⟨own (.inr (.inr rfl)) h.oP.1, h.oP.2⟩, h.aNE, h.aNP, h.aEP⟩
 obtain ⟨xs, h1, h2, h3⟩ := h.oN
 exact ⟨xs, own (.inl rfl) h1, h2, fun m v x hv hx => zden_keep hlt h.ge hz hrw hg (h3 m v x hv hx)⟩
theorem NS.fix {Z' : Nat → Prop} (h : NS F w bm bt Z vN vE vP ns zE zP wr) (hZ : ∀ b, Z b → Z' b) (hz : ∀ b, Z' b → bt < b ∧ b < wr.heap.size ∧ vN.ownBlock ≠ some b ∧ vE.ownBlock ≠ some b ∧ vP.ownBlock ≠ some b) : NS F w bm bt Z' vN vE vP ns zE zP wr := by
 obtain ⟨xs, h1, h2, h3⟩ := h.oN
 exact ⟨h.ge, h.hm, h.ht, h.htw, hz, ⟨xs, h1, h2, fun m v x hv hx => (h3 m v x hv hx).grow fun b o h => h.imp id (hZ b)⟩, h.oE, h.oP, h.aNE, h.aNP, h.aEP⟩
theorem apart_new {v v' u : Value} (h : apart v u) (hu : ∀ g, u.ownBlock = some g → g < wr.heap.size) (loc : v'.ownBlock = v.ownBlock ∨ v'.ownBlock = some wr.heap.size) : apart v' u := by
 unfold apart at *
 rcases loc with l | l
 ·rw [l]; exact h
 ·refine .inr fun e => ?_
  rw [l] at e
  have := hu _ e.symm
  omega
theorem own_lt {base size n : Nat} {e : TypeId} {v : Value} {xs : List Value} (ho : wr.ownsRow base e size v n xs) : ∀ g, v.ownBlock = some g → g < wr.heap.size := fun g hg => (ho.lt g hg).2
theorem NS.appN (hlt : Lt F w) (h : NS F w bm bt Z vN vE vP ns zE zP wr) {v' : Value} {d : D} {xs' : List Value} (hg : wr.grownBy W vN.ownBlock) (loc : v'.ownBlock = vN.ownBlock ∨ v'.ownBlock = some wr.heap.size)
  (ho : W.ownsRow (bt + 1) 71 7 v' (ns ++ [d]).length xs') (h1 : ∀ u ∈ xs', u.oneCell' = true) (hd : ∀ (m : Nat) (v : Value) (x : D), xs'[m]? = some v → (flat (ns ++ [d]))[m]? = some x → Den0 (zf F Z) W v x) : NS F w bm bt Z v' vE vP (ns ++ [d]) zE zP W := by
 obtain ⟨xs, g1, g2, g3⟩ := h.oN
 have hb : ∀ b, vN.ownBlock = some b → w.heap.size ≤ b := fun b hb => by have := (g1.lt b hb).1; have := h.hm; have := h.ht; omega
 refine ⟨ge_grown h.ge hg hb, h.hm, h.ht, Nat.lt_of_lt_of_le h.htw hg.size, fun b hb => ?_, ⟨xs', ho, h1, hd⟩, h.oE.kept hg h.aNE.symm, h.oP.kept hg h.aNP.symm, apart_new h.aNE (own_lt h.oE.1) loc, apart_new h.aNP (own_lt h.oP.1) loc, h.aEP⟩
 have hz := h.z b hb
 refine ⟨hz.1, Nat.lt_of_lt_of_le hz.2.1 hg.size, ?_, hz.2.2.2⟩
 rcases loc with l | l
 ·rw [l]; exact hz.2.2.1
 ·rw [l]; intro e; injection e with e; omega
theorem zne (h : NS F w bm bt Z vN vE vP ns zE zP wr) {v : Value} (hv : ∀ b, Z b → v.ownBlock ≠ some b) : ∀ b, Z b → b < wr.heap.size ∧ some b ≠ v.ownBlock := fun b hb => ⟨(h.z b hb).2.1, fun e => hv b hb e.symm⟩
theorem NS.appE (hlt : Lt F w) (h : NS F w bm bt Z vN vE vP ns zE zP wr) {v' : Value} {zs : List Int} (hg : wr.grownBy W vE.ownBlock) (loc : v'.ownBlock = vE.ownBlock ∨ v'.ownBlock = some wr.heap.size)
  (ho : W.ownsInts (bt + 1) 3 .i64 v' zs) : NS F w bm bt Z vN v' vP ns zs zP W := by
 obtain ⟨xs, g1, g2, g3⟩ := h.oN
 have hb : ∀ b, vE.ownBlock = some b → w.heap.size ≤ b := fun b hb => by have := (h.oE.1.lt b hb).1; have := h.hm; have := h.ht; omega
 refine ⟨ge_grown h.ge hg hb, h.hm, h.ht, Nat.lt_of_lt_of_le h.htw hg.size, fun b hb => ?_, ⟨xs, g1.kept hg h.aNE, g2, fun m v x hv hx => zden_keep hlt h.ge (zne h fun b hb => (h.z b hb).2.2.2.1) hb hg (g3 m v x hv hx)⟩, ho, h.oP.kept hg h.aEP.symm, (apart_new h.aNE.symm (own_lt g1) loc).symm, h.aNP, apart_new h.aEP (own_lt h.oP.1) loc⟩
 have hz := h.z b hb
 refine ⟨hz.1, Nat.lt_of_lt_of_le hz.2.1 hg.size, hz.2.2.1, ?_, hz.2.2.2.2⟩
 rcases loc with l | l
 ·rw [l]; exact hz.2.2.2.1
 ·rw [l]; intro e; injection e with e; omega
theorem NS.appP (hlt : Lt F w) (h : NS F w bm bt Z vN vE vP ns zE zP wr) {v' : Value} {zs : List Int} (hg : wr.grownBy W vP.ownBlock) (loc : v'.ownBlock = vP.ownBlock ∨ v'.ownBlock = some wr.heap.size)
  (ho : W.ownsInts (bt + 1) 3 .i64 v' zs) : NS F w bm bt Z vN vE v' ns zE zs W := by
 obtain ⟨xs, g1, g2, g3⟩ := h.oN
 have hb : ∀ b, vP.ownBlock = some b → w.heap.size ≤ b := fun b hb => by have := (h.oP.1.lt b hb).1; have := h.hm; have := h.ht; omega
 refine ⟨ge_grown h.ge hg hb, h.hm, h.ht, Nat.lt_of_lt_of_le h.htw hg.size, fun b hb => ?_, ⟨xs, g1.kept hg h.aNP, g2, fun m v x hv hx => zden_keep hlt h.ge (zne h fun b hb => (h.z b hb).2.2.2.2) hb hg (g3 m v x hv hx)⟩, h.oE.kept hg h.aEP, ho, h.aNE, (apart_new h.aNP.symm (own_lt g1) loc).symm, (apart_new h.aEP.symm (own_lt h.oE.1) loc).symm⟩
 have hz := h.z b hb
 refine ⟨hz.1, Nat.lt_of_lt_of_le hz.2.1 hg.size, hz.2.2.1, hz.2.2.2.1, ?_⟩
 rcases loc with l | l
 ·rw [l]; exact hz.2.2.2.2
 ·rw [l]; intro e; injection e with e; omega
def NoB (Z : Nat → Prop) (vN vE vP : Value) (b : Nat) : Prop := Z b ∨ vN.ownBlock = some b ∨ vE.ownBlock = some b ∨ vP.ownBlock = some b
structure NG (Z : Nat → Prop) (vN vE vP : Value) (bm bt n : Nat) (D : DataW Unit) (wr : World) : Prop where
 gr : wr.ownsGroups Tryz.prog 3 (bt + 1) 3 .i64 bm n D
 sh : wr.Shuns bm (NoB Z vN vE vP)
variable {n : Nat} {D : DataW Unit}
theorem NG.lt (h : NG Z vN vE vP bm bt n D wr) : bm < wr.heap.size := by
 obtain ⟨es, clock, hb, _⟩ := h.gr
 exact (Array.getElem?_eq_some_iff.1 hb).1
theorem NG.keep (h : NG Z vN vE vP bm bt n D wr) (ht : bt = bm + 1) (hg : wr.grownBy W r) (hr : r = none ∨ r = some bt ∨ ∃ b, r = some b ∧ bm < b ∧ NoB Z vN vE vP b) : NG Z vN vE vP bm bt n D W := by
 have hb' : some bm ≠ r := by
  rintro rfl
  rcases hr with h | h | ⟨b, h, h2, _⟩
  ·cases h
  ·injection h with h; omega
  ·injection h with h; omega
 refine ⟨h.gr.kept hg hb' ?_, h.sh.kept hg h.lt hb'⟩
 rcases hr with rfl | rfl | ⟨b, rfl, _, hb⟩
 ·intro es clock _ x _
  cases x.val.ownBlock
  ·exact .inl rfl
  ·exact .inr (by simp)
 ·exact h.gr.rowsAbove fun j hj => by injection hj with hj; omega
 ·exact h.sh.rowsOff fun j hj => by injection hj with hj; exact hj ▸ hb
theorem NG.reno {Z' : Nat → Prop} {vN' vE' vP' : Value} (h : NG Z vN vE vP bm bt n D wr) (hn : ∀ g, NoB Z' vN' vE' vP' g → NoB Z vN vE vP g ∨ wr.heap.size ≤ g) : NG Z' vN' vE' vP' bm bt n D wr := ⟨h.gr, h.sh.reno h.gr hn⟩
end
end Go.Av
namespace Go.Av
open Go.Proofs Go.RowKit Go.Proofs.YtcogfddcdpgpkaaGreatDoor Go.Maps
def ndP : D → Int | .agg (.int _ p :: _) => p | _ => 0
def ndK : D → Int | .agg (_ :: .int _ k :: _) => k | _ => 0
def rowF (es : List D) (key : Int) : Nat → List Int
 | 0 => []
 | k + 1 => if ndK (es.getD k .bad) = 1 ∧ ndP (es.getD k .bad) = key then rowF es key k ++ [(k : Int)] else rowF es key k
def elF (es : List D) : Nat → List Int
 | 0 => []
 | k + 1 => if ndK (es.getD k .bad) = 1 then elF es k ++ [(k : Int)] else elF es k
def plF (es : List D) : Nat → List Int
 | 0 => []
 | k + 1 => plF es k ++ [((rowF es (ndP (es.getD k .bad)) k).length : Int)]
def i64s (zs : List Int) : D := .list (zs.map (D.int .i64))
def treeD (es : List D) : D := .fix (.agg [.list es, i64s (elF es es.length), .imap (es.map ndP) (es.map fun e => i64s (rowF es (ndP e) es.length)), i64s (plF es es.length)]) 0
section
variable {P : Program} {ops : Array Oper} {o : Oper} {a : Act} {Q : Exit → Act → World → Prop}
theorem own_form {w : World} {base e size n : Nat} {v : Value} {xs : List Value} (h : w.ownsRow base e size v n xs) : ∃ A c, v = .slice A n c ∧ n ≤ c := by
 rcases h.2 with ⟨rfl, rfl⟩ | ⟨g, cap, cur, rfl, _, _, hc, _⟩
 ·exact ⟨_, _, rfl, Nat.le_refl _⟩
 ·exact ⟨_, _, rfl, hc⟩
theorem step_own {K : Act → World → Prop} {F : Prop} (w0 : World) (hgd : o.guard = none) (s x : Operand) (t : TypeId) (ho : o.op = .call { callee := .builtin .append, args := #[s, x], argTypes := #[t, t] })
  {e : TypeId} {size bytes : Nat} (E : EI P t e size bytes) (base : Nat) (v : Value) (n : Nat) (xs : List Value) (hs : a.eval s = v) (hown : w0.ownsRow base e size v n xs)
  (ad : Addr) (m c : Nat) (news : List Value) (hx : a.eval x = .slice (some ad) m c) (hl : news.length = m * size) (hnews : ∀ j u, news[j]? = some u → w0.cell? (ad.add j) = some u) (h1 : ∀ u ∈ news, u.oneCell' = true)
  (h63 : n + m ≤ maxLen) (hbytes : (n + m) * bytes ≤ 140737488355328) (hbase : base ≤ w0.heap.size)
  (h : ∀ A' c' w', n + m ≤ c' → w'.ownsRow base e size (.slice A' (n + m) c') (n + m) (xs ++ news) → w0.grownBy w' v.ownBlock → ((Value.slice A' (n + m) c').ownBlock = v.ownBlock ∨ (Value.slice A' (n + m) c').ownBlock = some w0.heap.size) → K (a.put o.dst (.slice A' (n + m) c')) w') :
  if Region.wanted o (yielded ops a.tmps) = true then Oper.wp P o a w0 K Q else F := by
 obtain ⟨i, z, ht, hi, hz, hsz, hby, hzs, hpos⟩ := E
 obtain ⟨v', w', hr, h2, h3, h4, h5⟩ := run_append_own_at (P := P) w0 base t o.type e i z size bytes ht hi hz hsz hby hzs hpos v n xs hown ad m c news hl hnews h1 h63 hbytes hbase
 obtain ⟨A', c', rfl, hc⟩ := own_form h2
 have hw : Region.wanted o (yielded ops a.tmps) = true := by
  unfold Region.wanted
  rw [hgd]
 rw [if_pos hw]
 unfold Oper.wp execOp
 simp only [ho, resolve, invoke, builtin, Sem.run_bind, Sem.run_pure, Result.andThen_ok, List.map_toArray, List.map_cons, List.map_nil, hs, hx, hr]
 exact h A' c' w' hc h2 h3 h5
end
theorem kd3 : Keyed Tryz.prog 3 := int_keyed (show Tryz.prog.underlying 3 = some (.int .i64) by kernel_rfl)
theorem node_all {F : Nat → Nat → Prop} {w : World} {a : Option Addr} {vs : List Value} {es : List D} (hes : ∀ e ∈ es, isNode e = true) (hvl : vs.length = es.length * 7) (hsl : Sl w w.heap.size a vs)
  (hx : ∀ (i : Nat) (v : Value) (x : D), vs[i]? = some v → (flat es)[i]? = some x → Den0 F w v x) {i : Nat} (hi : i < es.length) :
  ∃ b off p k sp nm la ls tx x4 c4 x5 c5, a = some ⟨b, off, none⟩ ∧ b < w.heap.size ∧ es.getD i .bad = .agg [.int .i64 p, .int .i64 k, .str sp, .str nm, .list la, .list ls, .str tx] ∧
   (w.cell? ⟨b, off + i * 7, none⟩ = some (.int .i64 p) ∧ w.cell? ⟨b, off + i * 7 + 1, none⟩ = some (.int .i64 k) ∧ w.cell? ⟨b, off + i * 7 + 2, none⟩ = some (.string ⟨sp.toArray⟩) ∧ w.cell? ⟨b, off + i * 7 + 3, none⟩ = some (.string ⟨nm.toArray⟩) ∧
   w.cell? ⟨b, off + i * 7 + 4, none⟩ = some (.slice x4 la.length c4) ∧ w.cell? ⟨b, off + i * 7 + 5, none⟩ = some (.slice x5 ls.length c5) ∧ w.cell? ⟨b, off + i * 7 + 6, none⟩ = some (.string ⟨tx.toArray⟩)) ∧
   Den0 F w (.slice x4 la.length c4) (.list la) ∧ Den0 F w (.slice x5 ls.length c5) (.list ls) ∧ (∀ e ∈ la, (dcells e).length = 3) ∧ (∀ e ∈ ls, (dcells e).length = 1) ∧ la.length ≤ 1000000 ∧ ls.length ≤ 1000000 := by
 have hei : es[i]? = some es[i] := List.getElem?_eq_getElem hi
 have hgd : es.getD i .bad = es[i] := by simp [List.getD, hei]
 obtain ⟨p, k, sp, nm, la, ls, tx, he, h4, h5, h6, h7⟩ := isNode_inv (hes es[i] (List.getElem_mem hi))
 rw [he] at hei
 obtain ⟨b, off, ha, hb, hc⟩ := hsl (by intro e; rw [e] at hvl; simp at hvl; omega)
 have key : ∀ j (x : D), j < 7 → (dcells (.agg [.int .i64 p, .int .i64 k, .str sp, .str nm, .list la, .list ls, .str tx]))[j]? = some x → ∃ u, w.cell? ⟨b, off + i * 7 + j, none⟩ = some u ∧ Den0 F w u x := by
  intro j x hj hxj
  have f := flat_at (isNode_len hes) hei j hj
  rw [hxj] at f
  have l : i * 7 + j < vs.length := by omega
  refine ⟨vs[i * 7 + j], ?_, hx _ _ _ (List.getElem?_eq_getElem l) f⟩
  rw [Nat.add_assoc]
  exact hc _ l
 obtain ⟨u0, g0, e0⟩ := key 0 _ (by decide) rfl
 obtain ⟨u1, g1, e1⟩ := key 1 _ (by decide) rfl
 obtain ⟨u2, g2, e2⟩ := key 2 _ (by decide) rfl
 obtain ⟨u3, g3, e3⟩ := key 3 _ (by decide) rfl
 obtain ⟨u4, g4, e4⟩ := key 4 _ (by decide) rfl
 obtain ⟨u5, g5, e5⟩ := key 5 _ (by decide) rfl
 obtain ⟨u6, g6, e6⟩ := key 6 _ (by decide) rfl
 have s4 : ∃ x c, u4 = .slice x la.length c := by
  cases e4 with
  | list a n c sz es vs h1 h2 h3 h4 h5 h6 h7 => exact ⟨a, c, by rw [h1]⟩
 have s5 : ∃ x c, u5 = .slice x ls.length c := by
  cases e5 with
  | list a n c sz es vs h1 h2 h3 h4 h5 h6 h7 => exact ⟨a, c, by rw [h1]⟩
 obtain ⟨x4, c4, rfl⟩ := s4
 obtain ⟨x5, c5, rfl⟩ := s5
 cases e0; cases e1; cases e2; cases e3; cases e6
 exact ⟨b, off, p, k, sp, nm, la, ls, tx, x4, c4, x5, c5, ha, hb, hgd.trans he, ⟨g0, g1, g2, g3, g4, g5, g6⟩, e4, e5, h4, h5, h6, h7⟩
def datL (zs : List Int) : DataW Unit := if zs = [] then .nil else .slice (ChangeShapes.lits .i64 zs) []
structure NR (F : Nat → Nat → Prop) (es : List D) (w : World) (bm bt k : Nat) (wr : World) : Prop where
 ex : ∃ Z vN vE vP n' D, NS F w bm bt Z vN vE vP (es.take k) (elF es k) (plF es k) wr ∧ NG Z vN vE vP bm bt n' D wr ∧ n' ≤ k ∧ Bk wr bt 83 #[vN, vE, .map (some bm), vP] ∧ IsMap D ∧ ∀ key, D.atKey (.int .i64 key) .nil = datL (rowF es key k)
theorem made_two (w : World) : (w.alloc (.map #[] 0)).ownsGroups (H := Unit) Tryz.prog 3 (w.heap.size + 1 + 1) 3 .i64 w.heap.size 0 (.map []) :=
 ⟨#[], 0, (MapKept.heap_alloc w _).1, ⟨by simp, MapKept.stamped_empty 0, by simp⟩, Nat.le_refl _, rfl, by omega, by simp, by simp⟩
theorem nr_start {F : Nat → Nat → Prop} {es : List D} {w w1 : World} (hb : Ge w w1) : NR F es w w1.heap.size (w1.heap.size + 1) 0 ((w1.alloc (.map #[] 0)).alloc (.cells #[.slice none 0 0, .slice none 0 0, .map (some w1.heap.size), .slice none 0 0] 83)) := by
 have hG : Ge w ((w1.alloc (.map #[] 0)).alloc (.cells #[.slice none 0 0, .slice none 0 0, .map (some w1.heap.size), .slice none 0 0] 83)) := (hb.new _).new _
 refine ⟨fun _ => False, .slice none 0 0, .slice none 0 0, .slice none 0 0, 0, .map [], ⟨hG, hb.size, rfl, by simp, fun b h => h.elim, ⟨[], World.ownsRow_nil _ _ _ _, by simp, by simp⟩, World.ownsInts_nil _ _ _ _, World.ownsInts_nil _ _ _ _, .inl rfl, .inl rfl, .inl rfl⟩, ?_, Nat.le_refl _, ?_, isMap_empty, fun key => rfl⟩
 ·have h0 : NG (fun _ => False) (.slice none 0 0) (.slice none 0 0) (.slice none 0 0) w1.heap.size (w1.heap.size + 1) 0 (.map []) (w1.alloc (.map #[] 0)) := ⟨made_two w1, World.Shuns_made _ _⟩
  exact h0.keep rfl (r := none) ⟨rfl, rfl, rfl, by simp, fun k hk _ => (MapKept.heap_alloc _ _).2 k hk⟩ (.inl rfl)
 ·have := Bk.new (w1.alloc (.map #[] 0)) 83 #[.slice none 0 0, .slice none 0 0, .map (some w1.heap.size), .slice none 0 0]
  simpa using this
def ZZ (Z : Nat → Prop) (W W' : World) (b : Nat) : Prop := Z b ∨ (W.heap.size ≤ b ∧ b < W'.heap.size)
section
variable {F : Nat → Nat → Prop} {w : World} {bm bt : Nat} {Z : Nat → Prop} {vN vE vP : Value} {ns : List D} {zE zP : List Int} {wr W W' : World} {n : Nat} {DD : DataW Unit}
theorem grown_none (h : Ge W W') : W.grownBy W' none := ⟨h.os, h.tape, h.output, h.size, fun k hk _ => h.block k hk⟩
theorem ns_ge (hlt : Lt F w) (h : NS F w bm bt Z vN vE vP ns zE zP W) (hb : Ge W W') : NS F w bm bt Z vN vE vP ns zE zP W' := h.keep hlt (grown_none hb) (by simp)
theorem ng_ge (h : NG Z vN vE vP bm bt n DD W) (ht : bt = bm + 1) (hb : Ge W W') : NG Z vN vE vP bm bt n DD W' := h.keep ht (grown_none hb) (.inl rfl)
theorem ns_grow (hlt : Lt F w) (h : NS F w bm bt Z vN vE vP ns zE zP W) (hb : Ge W W') : NS F w bm bt (ZZ Z W W') vN vE vP ns zE zP W' := by
 refine (ns_ge hlt h hb).fix (fun b h => .inl h) ?_
 obtain ⟨xs, g1, _⟩ := h.oN
 rintro b (hz | ⟨h1, h2⟩)
 ·exact ⟨(h.z b hz).1, Nat.lt_of_lt_of_le (h.z b hz).2.1 hb.size, (h.z b hz).2.2⟩
 ·have := h.htw
  refine ⟨by omega, h2, fun e => ?_, fun e => ?_, fun e => ?_⟩
  ·have := own_lt g1 b e; omega
  ·have := own_lt h.oE.1 b e; omega
  ·have := own_lt h.oP.1 b e; omega
theorem ng_grow (h : NG Z vN vE vP bm bt n DD W) (ht : bt = bm + 1) (hb : Ge W W') : NG (ZZ Z W W') vN vE vP bm bt n DD W' := by
 have h1 : NG (ZZ Z W W') vN vE vP bm bt n DD W := h.reno fun g hg => by
  rcases hg with (hz | hz) | hz
  ·exact .inl (.inl hz)
  ·exact .inr hz.1
  ·exact .inl (.inr hz)
 exact ng_ge h1 ht hb
theorem ns_node (hlt : Lt F w) (h : NS F w bm bt Z vN vE vP ns zE zP W) {xs : List Value} {p k : Int} {sp nm tx : List UInt8} {la ls : List D} {u4 u5 : Value} {A : Option Addr} {c : Nat} (h1 : ∀ u ∈ xs, u.oneCell' = true) (hx : ∀ (m : Nat) (v : Value) (x : D), xs[m]? = some v → (flat ns)[m]? = some x → Den0 (zf F Z) W v x)
  (hxl : xs.length = ns.length * 7) (hns : ∀ e ∈ ns, (dcells e).length = 7) (h4 : Den0 (zf F Z) W u4 (.list la)) (h5 : Den0 (zf F Z) W u5 (.list ls)) (o4 : u4.oneCell' = true) (o5 : u5.oneCell' = true)
  (hg : W.grownBy W' vN.ownBlock) (ho : W'.ownsRow (bt + 1) 71 7 (.slice A (ns.length + 1) c) (ns.length + 1) (xs ++ [.int .i64 p, .int .i64 k, .string ⟨sp.toArray⟩, .string ⟨nm.toArray⟩, u4, u5, .string ⟨tx.toArray⟩]))
  (loc : (Value.slice A (ns.length + 1) c).ownBlock = vN.ownBlock ∨ (Value.slice A (ns.length + 1) c).ownBlock = some W.heap.size) :
  NS F w bm bt Z (.slice A (ns.length + 1) c) vE vP (ns ++ [.agg [.int .i64 p, .int .i64 k, .str sp, .str nm, .list la, .list ls, .str tx]]) zE zP W' := by
 obtain ⟨xs0, g1, _, _⟩ := h.oN
 have hb : ∀ b, vN.ownBlock = some b → w.heap.size ≤ b := fun b hb => by have := (g1.lt b hb).1; have := h.hm; have := h.ht; omega
 have kp : ∀ {v x}, Den0 (zf F Z) W v x → Den0 (zf F Z) W' v x := fun hv => zden_keep hlt h.ge (zne h fun b hb => (h.z b hb).2.2.1) hb hg hv
 refine h.appN hlt hg loc (by simpa using ho) (fun u hu => ?_) (fun m v x hv hx' => ?_)
 ·rcases List.mem_append.1 hu with hu | hu
  ·exact h1 u hu
  ·simp only [List.mem_cons, List.not_mem_nil, or_false] at hu
   rcases hu with rfl | rfl | rfl | rfl | rfl | rfl | rfl
   ·rfl
   ·rfl
   ·rfl
   ·rfl
   ·exact o4
   ·exact o5
   ·rfl
 ·have hfl : flat (ns ++ [D.agg [.int .i64 p, .int .i64 k, .str sp, .str nm, .list la, .list ls, .str tx]]) = flat ns ++ [.int .i64 p, .int .i64 k, .str sp, .str nm, .list la, .list ls, .str tx] := by
   unfold flat
   rw [List.flatMap_append]
   rfl
  rw [hfl] at hx'
  have hfn : (flat ns).length = xs.length := by rw [hxl]; exact flat_len hns
  by_cases hm : m < xs.length
  ·rw [List.getElem?_append_left hm] at hv
   rw [List.getElem?_append_left (by omega)] at hx'
   exact kp (hx m v x hv hx')
  ·rw [List.getElem?_append_right (by omega)] at hv
   rw [List.getElem?_append_right (by omega), hfn] at hx'
   generalize m - xs.length = j at hv hx'
   match j with
   | 0 => simp at hv hx'; subst hv; subst hx'; exact .int _ _
   | 1 => simp at hv hx'; subst hv; subst hx'; exact .int _ _
   | 2 => simp at hv hx'; subst hv; subst hx'; exact .str _
   | 3 => simp at hv hx'; subst hv; subst hx'; exact .str _
   | 4 => simp at hv hx'; subst hv; subst hx'; exact kp h4
   | 5 => simp at hv hx'; subst hv; subst hx'; exact kp h5
   | 6 => simp at hv hx'; subst hv; subst hx'; exact .str _
   | j + 7 => simp at hv
theorem ng_row (h : NG Z vN vE vP bm bt n DD W) (ht : bt = bm + 1) {v v' : Value} {vN' vE' vP' : Value} {size m : Nat} {e : TypeId} {xs : List Value} (ho : W.ownsRow (bt + 1) e size v m xs) (hg : W.grownBy W' v.ownBlock) (hv : ∀ b, v.ownBlock = some b → NoB Z vN vE vP b)
  (loc : v'.ownBlock = v.ownBlock ∨ v'.ownBlock = some W.heap.size) (hn : ∀ g, NoB Z vN' vE' vP' g → NoB Z vN vE vP g ∨ v'.ownBlock = some g) : NG Z vN' vE' vP' bm bt n DD W' := by
 have h1 : NG Z vN' vE' vP' bm bt n DD W := h.reno fun g hg' => by
  rcases hn g hg' with h | h
  ·exact .inl h
  ·rcases loc with l | l
   ·rw [l] at h; exact .inl (hv g h)
   ·rw [l] at h; injection h with h; exact .inr (by omega)
 have h2 : NG Z vN vE vP bm bt n DD W' := by
  refine h.keep ht hg ?_
  cases hb : v.ownBlock with
  | none => exact .inl rfl
  | some b => exact .inr (.inr ⟨b, rfl, by have := (ho.lt b hb).1; omega, hv b hb⟩)
 exact ⟨h2.gr, h1.sh.kept hg h.lt (fun e => by have := (ho.lt bm e.symm).1; omega)⟩
end
def R8 (F : Nat → Nat → Prop) (es : List D) (w : World) (bm k B : Nat) (cs : Array Value) (m : Nat) (e p : List Int) (wx : World) : Prop :=
 ∃ Z vN vE vP n' D, NS F w bm (bm + 1) Z vN vE vP (es.take m) e p wx ∧ NG Z vN vE vP bm (bm + 1) n' D wx ∧ n' ≤ k ∧ Bk wx (bm + 1) 83 #[vN, vE, .map (some bm), vP] ∧ Bk wx B 71 cs ∧ Z B ∧ IsMap D ∧ ∀ key, D.atKey (.int .i64 key) .nil = datL (rowF es key k)
end Go.Av
namespace Go.Av
open Go.Proofs Go.RowKit Go.Proofs.YtcogfddcdpgpkaaGreatDoor Go.Maps Go.MapKept
open Go.WideElems (Fit rd rg rd_val rd_key)
theorem key_int {kv : Value} {l : Lit} (h : keyOf Tryz.prog 3 kv = some l) : ∃ m : Int, kv = .int .i64 m := by
 have hk : Tryz.prog.underlying 3 = some (.int .i64) := by kernel_rfl
 cases kv with
 | int q m =>
  simp [keyOf, hk, mapKey] at h
  exact ⟨m, by rw [h.1.1]⟩
 | _ => simp [keyOf, hk, mapKey] at h
theorem groups_keys {w : World} {base b n : Nat} {D : DataW Unit} (h : w.ownsGroups Tryz.prog 3 base 3 .i64 b n D) : ∃ es clock, w.heap[b]? = some (.map es clock) ∧ ∀ x ∈ es.toList, ∃ m : Int, x.key = .int .i64 m := by
 obtain ⟨es, clock, hb, Fi, _⟩ := h
 refine ⟨es, clock, hb, fun x hx => ?_⟩
 obtain ⟨y, hy⟩ := Fi.reads x hx
 exact key_int (rd_key hy)
theorem look_val {es : Array MapEntry} {clock b : Nat} (n : Int) (hks : ∀ x ∈ es.toList, ∃ m : Int, x.key = .int .i64 m) :
  ∃ v, (∀ W : World, W.heap[b]? = some (.map es clock) → (Instr.lookup 80 (.map (some b)) (.int .i64 n) false).run Tryz.prog W = .ok v W) ∧
   ((v = .slice none 0 0 ∧ ∀ x ∈ es.toList, x.key ≠ .int .i64 n) ∨ ∃ (j : Nat) (x : MapEntry), es.toList[j]? = some x ∧ x.key = .int .i64 n ∧ x.val = v ∧ ∀ (i : Nat) (y : MapEntry), i < j → es.toList[i]? = some y → y.key ≠ .int .i64 n) := by
 have ht : Tryz.prog.underlying 80 = some (.map 3 81) := by kernel_rfl
 have hk : Tryz.prog.underlying 3 = some (.int .i64) := by kernel_rfl
 have hzr : ∀ w : World, (zeroValue 81).run Tryz.prog w = .ok (.slice none 0 0) w := fun w => by kernel_rfl
 have hkey : IsKey (.int .i64) (.int .i64 n) := rfl
 have hks' : ∀ x ∈ es.toList, IsKey (.int .i64) x.key := fun x hx => by
  obtain ⟨m, hm⟩ := hks x hx
  rw [hm]
  exact rfl
 rcases findNow_first hkey es.toList 0 hks' with ⟨f1, f2⟩ | ⟨j, e0, f1, f2, f3, f4⟩
 ·refine ⟨.slice none 0 0, fun W h1 => ?_, .inl ⟨rfl, f2⟩⟩
  simp [Instr.lookup, run_underlying ht, Go.MapKept.run_getObj_map h1, Go.MapKept.run_checkKey hk hkey, Go.MapKept.run_findKey hk f1, hzr, Result.andThen]
 ·refine ⟨e0.val, fun W h1 => ?_, .inr ⟨j, e0, f2, f3, rfl, f4⟩⟩
  simp [Instr.lookup, run_underlying ht, Go.MapKept.run_getObj_map h1, Go.MapKept.run_checkKey hk hkey, Go.MapKept.run_findKey hk f1, Result.andThen]
theorem look_same {w W : World} {base b n : Nat} {D : DataW Unit} {z : Int} {v : Value} (h : w.ownsGroups Tryz.prog 3 base 3 .i64 b n D) (hW : W.heap[b]? = w.heap[b]?) (hr : (Instr.lookup 80 (.map (some b)) (.int .i64 z) false).run Tryz.prog w = .ok v w) :
  (Instr.lookup 80 (.map (some b)) (.int .i64 z) false).run Tryz.prog W = .ok v W := by
 obtain ⟨es, clock, hb, hks⟩ := groups_keys h
 obtain ⟨u, hu, _⟩ := look_val (b := b) (clock := clock) z hks
 have h1 := hu w hb
 rw [hr] at h1
 have : u = v := by injection h1 with h1; exact h1.symm
 subst this
 exact hu W (hW.trans hb)
theorem look_shun {w : World} {base b n : Nat} {D : DataW Unit} {z : Int} {v : Value} {No : Nat → Prop} (h : w.ownsGroups Tryz.prog 3 base 3 .i64 b n D) (hs : w.Shuns b No) (hr : (Instr.lookup 80 (.map (some b)) (.int .i64 z) false).run Tryz.prog w = .ok v w) :
  ∀ g, v.ownBlock = some g → ¬ No g := by
 obtain ⟨es, clock, hb, hks⟩ := groups_keys h
 obtain ⟨u, hu, hw⟩ := look_val (b := b) (clock := clock) z hks
 have h1 := hu w hb
 rw [hr] at h1
 have : u = v := by injection h1 with h1; exact h1.symm
 subst this
 intro g hg
 rcases hw with ⟨rfl, _⟩ | ⟨j, x, hj, _, rfl, _⟩
 ·cases hg
 ·exact hs es clock hb x (List.mem_of_getElem? hj) g hg
theorem group_put {F : Nat → Nat → Prop} {w W W1 W2 : World} {bm n : Nat} {Z : Nat → Prop} {vN vE vP v v' : Value} {ns : List D} {zE zP zs : List Int} {DD D' : DataW Unit} {key : Int} (hlt : Lt F w) (S : NS F w bm (bm + 1) Z vN vE vP ns zE zP W) (N : NG Z vN vE vP bm (bm + 1) n DD W)
  (hr : (Instr.lookup 80 (.map (some bm)) (.int .i64 key) false).run Tryz.prog W = .ok v W) (hoi : W.ownsInts (bm + 1 + 1) 3 .i64 v zs) (hg1 : W.grownBy W1 v.ownBlock) (loc : v'.ownBlock = v.ownBlock ∨ v'.ownBlock = some W.heap.size)
  (hm : (Instr.mapUpdate 80 (.map (some bm)) (.int .i64 key) v').run Tryz.prog W1 = .ok () W2) (hg2 : W1.grownBy W2 (some bm)) (hgr : W2.ownsGroups Tryz.prog 3 (bm + 1 + 1) 3 .i64 bm (n + 1) D') (hkw : (Lit.int .i64 key).wf = true) (hn : n < maxLen) :
  NS F w bm (bm + 1) Z vN vE vP ns zE zP W2 ∧ NG Z vN vE vP bm (bm + 1) (n + 1) D' W2 ∧ ∀ cs, Bk W (bm + 1) 83 cs → Bk W2 (bm + 1) 83 cs := by
 have hsh := look_shun N.gr N.sh hr
 have hvb : ∀ g, v.ownBlock = some g → bm + 1 < g := fun g hg => (hoi.1.lt g hg).1
 have S1 := S.keep hlt hg1 (fun b hb => .inr (.inr ⟨hvb b hb, fun hz => hsh b hb (.inl hz), fun e => hsh b hb (.inr (.inl e)), fun e => hsh b hb (.inr (.inr (.inl e))), fun e => hsh b hb (.inr (.inr (.inr e)))⟩))
 have S2 := S1.keep hlt hg2 (fun b hb => by injection hb with hb; exact .inr (.inl hb.symm))
 refine ⟨S2, ⟨hgr, ?_⟩, fun cs hB => (hB.grown hg1 (fun e => by have := hvb _ e.symm; omega)).grown hg2 (fun e => by injection e with e; omega)⟩
 obtain ⟨es, clock, hb, Fi, hs, _, hbb, _⟩ := N.gr
 have hblt : bm < W.heap.size := (Array.getElem?_eq_some_iff.1 hb).1
 have hb1 : W1.heap[bm]? = some (.map es clock) := (hg1.block bm hblt (fun e1 => by have := hvb bm e1.symm; omega)).trans hb
 obtain ⟨es', clock', hb2, hwho⟩ := stored_who kd3 (show Tryz.prog.underlying 80 = some (.map 3 81) by kernel_rfl) hb1 Fi (Nat.lt_of_le_of_lt hs hn) (keyOf_int_mk (show Tryz.prog.underlying 3 = some (.int .i64) by kernel_rfl) hkw) hm
 intro es2 clock2 hb2' y hy g hyg
 obtain ⟨rfl, rfl⟩ : es' = es2 ∧ clock' = clock2 := by rw [hb2] at hb2'; simpa using hb2'
 rcases hwho y hy with ⟨hy0, _⟩ | ⟨_, hval⟩
 ·exact N.sh es clock hb y hy0 g hyg
 ·rw [hval] at hyg
  rcases loc with l | l
  ·exact hsh g (l.symm.trans hyg)
  ·rw [l] at hyg
   injection hyg with hyg
   obtain ⟨xs, g1, _⟩ := S.oN
   rintro (h | h | h | h)
   ·have := (S.z g h).2.1; omega
   ·have := own_lt g1 g h; omega
   ·have := own_lt S.oE.1 g h; omega
   ·have := own_lt S.oP.1 g h; omega
end Go.Av
namespace Go.Av
open Go.Proofs Go.RowKit Go.Proofs.YtcogfddcdpgpkaaGreatDoor Go.Maps
open Go.WideElems (Fit rd rg rd_val rd_key)
theorem lits_inj {q : IntKind} {a b : List Int} (h : ChangeShapes.lits (H := Unit) q a = ChangeShapes.lits q b) : a = b := by
 unfold ChangeShapes.lits at h
 exact (List.map_inj_right (fun a b hab => by cases hab; rfl)).1 h
theorem datL_eq {w : World} {base : Nat} {e : TypeId} {v : Value} {zs ys : List Int} (ho : w.ownsInts base e .i64 v zs) (h : datL ys = rowDatum .i64 v zs) : zs = ys := by
 rcases ho.datum (H := Unit) with ⟨h1, rfl⟩ | h1
 ·rw [h1] at h
  unfold datL at h
  split at h
  ·rename_i hy; exact hy.symm
  ·cases h
 ·rw [h1] at h
  unfold datL at h
  split at h
  ·cases h
  ·injection h with h
   exact (lits_inj h).symm
theorem key_wf {kv : Value} {l : Lit} (h : keyOf Tryz.prog 3 kv = some l) : ∃ m : Int, kv = .int .i64 m ∧ (Lit.int .i64 m).wf = true := by
 have hk : Tryz.prog.underlying 3 = some (.int .i64) := by kernel_rfl
 cases kv with
 | int q m =>
  simp [keyOf, hk, mapKey] at h
  obtain ⟨⟨rfl, h1⟩, _⟩ := h
  exact ⟨m, rfl, h1⟩
 | _ => simp [keyOf, hk, mapKey] at h
theorem flat_i64 : ∀ zs : List Int, flat (zs.map (D.int .i64)) = zs.map (D.int .i64)
 | [] => rfl
 | z :: r => by
  have h := flat_i64 r
  unfold flat at h ⊢
  rw [List.map_cons, List.flatMap_cons, h]
  rfl
theorem ints_den {F : Nat → Nat → Prop} {w : World} {base : Nat} {v : Value} {zs : List Int} (h : w.ownsInts base 3 .i64 v zs) (hF : ∀ b o, base ≤ b → b < w.heap.size → F b o) : Den0 F w v (i64s zs) := by
 have hfl := flat_i64 zs
 refine own_den (.inr h.1) (by simp) (by decide) (fun e he => ?_) hF (fun u hu => ?_) (fun i u x hu hx => ?_)
 ·obtain ⟨z, _, rfl⟩ := List.mem_map.1 he
  rfl
 ·obtain ⟨z, _, rfl⟩ := List.mem_map.1 hu
  rfl
 ·rw [hfl] at hx
  simp only [List.getElem?_map, Option.map_eq_some_iff] at hu hx
  obtain ⟨z, hz, rfl⟩ := hu
  obtain ⟨z', hz', rfl⟩ := hx
  rw [hz] at hz'
  obtain rfl := Option.some.inj hz'
  exact .int _ _
theorem rowF_none {es : List D} {z : Int} : ∀ {k : Nat}, k ≤ es.length → z ∉ es.map ndP → rowF es z k = []
 | 0, _, _ => rfl
 | k + 1, hk, h => by
  have hk' : k < es.length := hk
  have hm : ndP (es.getD k .bad) ∈ es.map ndP := by
   have : es.getD k .bad = es[k] := by simp [List.getD, hk']
   rw [this]
   exact List.mem_map.2 ⟨_, List.getElem_mem hk', rfl⟩
  have hn : ¬ (ndK (es.getD k .bad) = 1 ∧ ndP (es.getD k .bad) = z) := fun hh => h (by rw [← hh.2]; exact hm)
  rw [rowF, if_neg hn]
  exact rowF_none (Nat.le_of_succ_le hk) h
theorem kfind_map (z : Int) (f : Int → D) : ∀ es : List D, kfind z (es.map ndP) (es.map fun e => f (ndP e)) = if z ∈ es.map ndP then f z else .list []
 | [] => rfl
 | e :: es => by
  simp only [List.map_cons, kfind]
  by_cases h : ndP e = z
  ·rw [if_pos h, if_pos (by simp [h]), h]
  ·rw [if_neg h, kfind_map z f es]
   have : (z ∈ ndP e :: es.map ndP) ↔ z ∈ es.map ndP := by
    rw [List.mem_cons]
    exact ⟨fun hh => hh.elim (fun e => absurd e.symm h) id, .inr⟩
   simp only [this]
theorem kfind_rows (es : List D) (z : Int) : kfind z (es.map ndP) (es.map fun e => i64s (rowF es (ndP e) es.length)) = i64s (rowF es z es.length) := by
 rw [kfind_map z (fun q => i64s (rowF es q es.length))]
 split
 ·rfl
 ·rename_i h
  rw [rowF_none (Nat.le_refl _) h]
  rfl
theorem nr_den {F : Nat → Nat → Prop} {es : List D} {w : World} {bm : Nat} {wr : World} (hlt : Lt F w) (hs : ∀ e ∈ es, isNode e = true) (hL : es.length ≤ 10000) (hpr : ∀ e ∈ es, -1 ≤ ndP e ∧ ndP e < 10000) (h : NR F es w bm (bm + 1) es.length wr) :
  Ge w wr ∧ Den0 (nw F w wr) wr (.pointer (some ⟨bm + 1, 0, none⟩)) (treeD es) := by
 obtain ⟨Z, vN, vE, vP, n', DD, S, N, hn', hB, hDm, hat⟩ := h.ex
 refine ⟨S.ge, ?_⟩
 have hbm := S.hm
 have hF : ∀ b o, bm + 1 + 1 ≤ b → b < wr.heap.size → nw F w wr b o := fun b o h1 h2 => .inr ⟨by omega, h2⟩
 have hbt : bm + 1 < wr.heap.size := S.htw
 have dN : Den0 (nw F w wr) wr vN (.list es) := by
  obtain ⟨xs, g1, g2, g3⟩ := S.oN
  rw [List.take_length] at g1 g3
  refine own_den (.inr g1) rfl (by decide) (isNode_len hs) hF g2 fun i v x hv hx => (g3 i v x hv hx).grow fun b o h => h.imp id fun h => ?_
  have := S.z b h
  exact ⟨by omega, this.2.1⟩
 have dE := ints_den S.oE hF
 have dP := ints_den S.oP hF
 have key : ∀ z : Int, (Lit.int .i64 z).wf = true → ∃ v, (Instr.lookup 80 (.map (some bm)) (.int .i64 z) false).run Tryz.prog wr = .ok v wr ∧ wr.ownsInts (bm + 1 + 1) 3 .i64 v (rowF es z es.length) := by
  intro z hz
  obtain ⟨v, zs, hrun, hat9, hoi, hzl, hback⟩ := N.gr.at kd3 (show Tryz.prog.underlying 80 = some (.map 3 81) by kernel_rfl) (show (zeroValue 81).run Tryz.prog wr = .ok (.slice none 0 0) wr by kernel_rfl) (by unfold maxLen; omega) (keyOf_int_mk (show Tryz.prog.underlying 3 = some (.int .i64) by kernel_rfl) hz)
  have : zs = rowF es z es.length := datL_eq hoi ((hat z).symm.trans hat9)
  subst this
  exact ⟨v, hrun, hoi⟩
 have dM : Den0 (nw F w wr) wr (.map (some bm)) (.imap (es.map ndP) (es.map fun e => i64s (rowF es (ndP e) es.length))) := by
  obtain ⟨em, clock, hb, Fi, _⟩ := N.gr
  have hks : ∀ x ∈ em.toList, ∃ m : Int, x.key = .int .i64 m ∧ (Lit.int .i64 m).wf = true := fun x hx => by
   obtain ⟨y, hy⟩ := Fi.reads x hx
   exact key_wf (rd_key hy)
  have hks' : ∀ x ∈ em.toList, ∃ m : Int, x.key = .int .i64 m := fun x hx => (hks x hx).imp fun _ h => h.1
  refine .imap bm em clock _ _ hb (.inr ⟨hbm, by omega⟩) hks' (fun z hz => ?_) (fun j x z hj hxz hfirst => ?_)
  ·rw [kfind_rows]
   by_cases hm : z ∈ es.map ndP
   ·obtain ⟨e, he, rfl⟩ := List.mem_map.1 hm
    have hr := hpr e he
    obtain ⟨v, hrun, hoi⟩ := key (ndP e) (WalkArith.wf_i64 (by omega))
    obtain ⟨u, hu, hw⟩ := look_val (b := bm) (clock := clock) (ndP e) hks'
    have h1 := hu wr hb
    rw [hrun] at h1
    have : u = v := by injection h1 with h1; exact h1.symm
    subst this
    rcases hw with ⟨rfl, _⟩ | ⟨j, x, hj, hx, _⟩
    ·have := hoi.unique (World.ownsInts_nil wr (bm + 1 + 1) 3 .i64)
     rw [this]
     rfl
    ·exact absurd hx (hz x (List.mem_of_getElem? hj))
   ·rw [rowF_none (Nat.le_refl _) hm]
    rfl
  ·rw [kfind_rows]
   obtain ⟨m, hm, hwf⟩ := hks x (List.mem_of_getElem? hj)
   rw [hxz] at hm
   injection hm with _ hm
   subst hm
   obtain ⟨v, hrun, hoi⟩ := key z hwf
   obtain ⟨u, hu, hw⟩ := look_val (b := bm) (clock := clock) z hks'
   have h1 := hu wr hb
   rw [hrun] at h1
   have : u = v := by injection h1 with h1; exact h1.symm
   subst this
   rcases hw with ⟨rfl, hno⟩ | ⟨j', x', hj', hx', hv', hf'⟩
   ·exact absurd hxz (hno x (List.mem_of_getElem? hj))
   ·have hjj : j = j' := by
     rcases Nat.lt_trichotomy j j' with h | h | h
     ·exact absurd hxz (hf' j x h hj)
     ·exact h
     ·exact absurd hx' (hfirst j' x' h hj')
    subst hjj
    rw [hj] at hj'
    obtain rfl := Option.some.inj hj'
    rw [hv']
    exact ints_den hoi hF
 refine Eq.mp (congrArg (fun z => Den0 _ _ (.pointer (some ⟨bm + 1, z, none⟩)) (treeD es)) (Nat.zero_add 0)) ?_
 refine Den0.fix (.agg [.list es, i64s (elF es es.length), .imap (es.map ndP) (es.map fun e => i64s (rowF es (ndP e) es.length)), i64s (plF es es.length)]) (bm + 1) 0 0 [vN, vE, .map (some bm), vP] rfl ?_ ?_
 ·intro i v hv
  have hcell : wr.cell? ⟨bm + 1, 0 + i, none⟩ = some v := by
   rw [Nat.zero_add, hB.cell i]
   simpa using hv
  refine ⟨.inr ⟨by omega, hbt⟩, hcell, ?_⟩
  match i with
  | 0 => simp at hv; subst hv; cases dN; rfl
  | 1 => simp at hv; subst hv; cases dE; rfl
  | 2 => simp at hv; subst hv; rfl
  | 3 => simp at hv; subst hv; cases dP; rfl
  | i + 4 => simp at hv
 ·intro i v x hv hx
  match i with
  | 0 => simp [dcells] at hv hx; subst hv; subst hx; exact dN
  | 1 => simp [dcells] at hv hx; subst hv; subst hx; exact dE
  | 2 => simp [dcells] at hv hx; subst hv; subst hx; exact dM
  | 3 => simp [dcells] at hv hx; subst hv; subst hx; exact dP
  | i + 4 => simp at hv
end Go.Av
namespace Go.Av
structure At where
 sp : List UInt8
 nm : List UInt8
 vl : List UInt8
 deriving DecidableEq
structure Nd where
 p : Int
 k : Int
 sp : List UInt8
 nm : List UInt8
 at_ : List At
 st : List (List UInt8)
 tx : List UInt8
 deriving DecidableEq
def At.d (a : At) : D := .agg [.str a.sp, .str a.nm, .str a.vl]
def Nd.d (n : Nd) : D := .agg [.int .i64 n.p, .int .i64 n.k, .str n.sp, .str n.nm, .list (n.at_.map At.d), .list (n.st.map .str), .str n.tx]
theorem getD_map {α : Type} {xs : List α} {f : α → D} {i : Nat} {x : α} (h : xs[i]? = some x) : (xs.map f).getD i .bad = f x := by
 simp [List.getD, h]
theorem some_at {α : Type} {xs : List α} {i : Nat} (h : i < xs.length) : ∃ x, xs[i]? = some x := ⟨_, List.getElem?_eq_getElem h⟩
theorem lenM {α : Type} (xs : List α) (f : α → D) : ((xs.map f).length : Int) = xs.length := by simp
theorem lenM0 {α : Type} (xs : List α) (f : α → D) : (xs.map f).length = xs.length := by simp
theorem wrapS (i : Nat) (h : i ≤ 140737488355328) : IntKind.i64.wrap ((i : Int) + 1) = ((i + 1 : Nat) : Int) := by
 rw [wrap64 _ (by omega) (by omega)]
 omega
theorem ndat (n : Nd) : n.d = .agg [.int .i64 n.p, .int .i64 n.k, .str n.sp, .str n.nm, .list (n.at_.map At.d), .list (n.st.map .str), .str n.tx] := rfl
def Small (ns : List Nd) : Prop := ns.length ≤ 10000 ∧ ∀ n ∈ ns, n.at_.length ≤ 1000000 ∧ n.st.length ≤ 1000000
end Go.Av
namespace Go.Av
def kAt (ns : List Nd) (i : Nat) : Int := match ns[i]? with | some n => n.k | none => 0
def pAt (ns : List Nd) (i : Nat) : Int := match ns[i]? with | some n => n.p | none => 0
def rowL (ns : List Nd) (key : Int) : Nat → List Int
 | 0 => []
 | k + 1 => if kAt ns k = 1 ∧ pAt ns k = key then rowL ns key k ++ [(k : Int)] else rowL ns key k
theorem ndK_at {ns : List Nd} {k : Nat} (h : k < ns.length) : ndK ((ns.map Nd.d).getD k .bad) = kAt ns k ∧ ndP ((ns.map Nd.d).getD k .bad) = pAt ns k := by
 obtain ⟨x, hx⟩ := some_at h
 rw [getD_map hx]
 unfold kAt pAt
 rw [hx]
 exact ⟨rfl, rfl⟩
theorem rowF_rowL {ns : List Nd} {key : Int} : ∀ {k : Nat}, k ≤ ns.length → rowF (ns.map Nd.d) key k = rowL ns key k
 | 0, _ => rfl
 | k + 1, h => by
  obtain ⟨e1, e2⟩ := ndK_at (ns := ns) (k := k) h
  rw [rowF, rowL, e1, e2, rowF_rowL (Nat.le_of_succ_le h)]
theorem rowL_pre {ns : List Nd} {key : Int} {k : Nat} : ∀ {m : Nat}, k ≤ m → (rowL ns key m).take (rowL ns key k).length = rowL ns key k ∧ (rowL ns key k).length ≤ (rowL ns key m).length
 | 0, h => by
  obtain rfl : k = 0 := by omega
  exact ⟨rfl, Nat.le_refl _⟩
 | m + 1, h => by
  by_cases e : k = m + 1
  ·subst e
   exact ⟨List.take_length, Nat.le_refl _⟩
  ·obtain ⟨h1, h2⟩ := rowL_pre (key := key) (ns := ns) (show k ≤ m by omega)
   rw [rowL]
   split
   ·rw [List.take_append_of_le_length h2, h1]
    exact ⟨rfl, by simp; omega⟩
   ·exact ⟨h1, h2⟩
theorem rowL_len {ns : List Nd} {key : Int} : ∀ {m : Nat}, (rowL ns key m).length ≤ m
 | 0 => Nat.le_refl _
 | m + 1 => by
  have := rowL_len (ns := ns) (key := key) (m := m)
  rw [rowL]
  split
  ·simp; omega
  ·omega
theorem rowL_succ {ns : List Nd} {i : Nat} (hk : kAt ns i = 1) : rowL ns (pAt ns i) (i + 1) = rowL ns (pAt ns i) i ++ [(i : Int)] := by
 rw [rowL, if_pos ⟨hk, rfl⟩]
theorem plF_at {ns : List Nd} : ∀ {m : Nat}, m ≤ ns.length → (plF (ns.map Nd.d) m).length = m ∧ ∀ i, i < m → (plF (ns.map Nd.d) m)[i]? = some ((rowL ns (pAt ns i) i).length : Int)
 | 0, _ => ⟨rfl, fun i h => absurd h (by omega)⟩
 | m + 1, h => by
  obtain ⟨h1, h2⟩ := plF_at (ns := ns) (m := m) (by omega)
  rw [plF, (ndK_at (ns := ns) (k := m) h).2, rowF_rowL (by omega)]
  refine ⟨by simp [h1], fun i hi => ?_⟩
  rw [List.getElem?_append]
  split
  ·exact h2 i (by omega)
  ·obtain rfl : i = m := by omega
   rw [h1, Nat.sub_self]
   rfl
theorem elB_at {ns : List Nd} {n : Int} (h : (decide (0 ≤ n) && (decide (n < ns.length) && kAt ns n.toNat == 1)) = true) : ∃ i : Nat, n = (i : Int) ∧ i < ns.length ∧ kAt ns i = 1 := by
 simp only [Bool.and_eq_true, decide_eq_true_eq, beq_iff_eq] at h
 exact ⟨n.toNat, by omega, by omega, h.2.2⟩
def elB (ns : List Nd) (n : Int) : Bool := decide (0 ≤ n) && (decide (n < ns.length) && kAt ns n.toNat == 1)
def rowI (ns : List Nd) (n : Int) : List Int := if elB ns n = true then rowL ns (pAt ns n.toNat) (n.toNat + 1) else []
def parI (ns : List Nd) (n : Int) : Int × Bool := if elB ns n = true ∧ 0 ≤ pAt ns n.toNat then (pAt ns n.toNat, true) else (0, false)
def ahdI (ns : List Nd) (n : Int) : Int × Bool := if elB ns n = true then (match (rowL ns (pAt ns n.toNat) n.toNat).getLast? with | some a => (a, true) | none => (0, false)) else (0, false)
def treeN (ns : List Nd) : D := treeD (ns.map Nd.d)
theorem treeN_form (ns : List Nd) : ∃ (E : D) (K : List Int) (V : List D) (P : List Int), treeN ns = .fix (.agg [.list (ns.map Nd.d), E, .imap K V, .list (P.map (.int .i64))]) 0 ∧ P.length = ns.length ∧ (∀ i, i < ns.length → (P.map (D.int .i64)).getD i .bad = .int .i64 ((rowL ns (pAt ns i) i).length : Int)) ∧
  ∀ z, kfind z K V = .list ((rowL ns z ns.length).map (.int .i64)) := by
 obtain ⟨h1, h2⟩ := plF_at (ns := ns) (Nat.le_refl _)
 refine ⟨i64s (elF (ns.map Nd.d) ns.length), (ns.map Nd.d).map ndP, (ns.map Nd.d).map fun e => i64s (rowF (ns.map Nd.d) (ndP e) (ns.map Nd.d).length), plF (ns.map Nd.d) ns.length, ?_, h1, fun i hi => ?_, fun z => ?_⟩
 ·unfold treeN treeD
  rw [List.length_map]
  rfl
 ·simp [List.getD, h2 i hi]
 ·have := kfind_rows (ns.map Nd.d) z
  have e : i64s (rowF (ns.map Nd.d) z (ns.map Nd.d).length) = .list ((rowL ns z ns.length).map (.int .i64)) := by
   rw [List.length_map, rowF_rowL (Nat.le_refl _)]
   rfl
  exact this.trans e
end Go.Av
namespace Go.Av
open Go.Proofs Go.RowKit Go.Proofs.YtcogfddcdpgpkaaGreatDoor
def szAll (sz : Nat) (es : List D) : Bool := es.all (fun e => (dcells e).length == sz) && decide (es.length ≤ 1000000)
theorem szAll_inv {sz : Nat} {es : List D} (h : szAll sz es = true) : (∀ e ∈ es, (dcells e).length = sz) ∧ es.length ≤ 1000000 := by
 unfold szAll at h
 simp only [Bool.and_eq_true, List.all_eq_true, beq_iff_eq, decide_eq_true_eq] at h
 exact h
def nodesOk (es : List D) : Bool := es.all isNode && decide (es.length ≤ 10000)
theorem nodesOk_inv {es : List D} (h : nodesOk es = true) : (∀ e ∈ es, isNode e = true) ∧ es.length ≤ 10000 := by
 unfold nodesOk at h
 simp only [Bool.and_eq_true, List.all_eq_true, decide_eq_true_eq] at h
 exact h
theorem den_list0 {c : Nat → Nat} {ν : Nat → Nat → Nat} {F : Nat → Nat → Prop} {w : World} {v : Value} {es : List D} (h : Den c ν F w v (.list es)) : Den0 F w v (.list es) := by
 cases h with
 | pure _ _ h => exact h
theorem node_pure {d : D} (h : isNode d = true) : ∀ {c ν F w v}, Den c ν F w v d → ∃ p k sp nm la ls tx v4 v5, d = .agg [.int .i64 p, .int .i64 k, .str sp, .str nm, .list la, .list ls, .str tx] ∧ v = .agg #[.int .i64 p, .int .i64 k, .string ⟨sp.toArray⟩, .string ⟨nm.toArray⟩, v4, v5, .string ⟨tx.toArray⟩] ∧
  Den0 F w v4 (.list la) ∧ Den0 F w v5 (.list ls) ∧ v4.oneCell' = true ∧ v5.oneCell' = true := by
 intro c ν F w v hd
 obtain ⟨p, k, sp, nm, la, ls, tx, rfl, _⟩ := isNode_inv h
 have key : ∀ vs : List Value, vs.length = 7 → (∀ (i : Nat) (v : Value) (x : D), vs[i]? = some v → [D.int .i64 p, .int .i64 k, .str sp, .str nm, .list la, .list ls, .str tx][i]? = some x → Den c ν F w v x) →
   ∃ v4 v5, vs.toArray = #[.int .i64 p, .int .i64 k, .string ⟨sp.toArray⟩, .string ⟨nm.toArray⟩, v4, v5, .string ⟨tx.toArray⟩] ∧ Den0 F w v4 (.list la) ∧ Den0 F w v5 (.list ls) := by
  intro vs hl hh
  match vs, hl with
  | [u0, u1, u2, u3, u4, u5, u6], _ =>
   have h0 := (hh 0 u0 _ rfl rfl).int_
   have h1 := (hh 1 u1 _ rfl rfl).int_
   have h2 := (hh 2 u2 _ rfl rfl).str_
   have h3 := (hh 3 u3 _ rfl rfl).str_
   have h4 := den_list0 (hh 4 u4 _ rfl rfl)
   have h5 := den_list0 (hh 5 u5 _ rfl rfl)
   have h6 := (hh 6 u6 _ rfl rfl).str_
   subst h0 h1 h2 h3 h6
   exact ⟨u4, u5, rfl, h4, h5⟩
 have one : ∀ {u : Value} {l : List D}, Den0 F w u (.list l) → u.oneCell' = true := by
  intro u l h
  cases h
  rfl
 cases hd with
 | pure _ _ hp =>
  cases hp with
  | agg vs cs h1 h2 h3 =>
   obtain ⟨v4, v5, e, h4, h5⟩ := key vs h1 fun i v d a b => .pure _ _ (h3 i v d a b)
   exact ⟨p, k, sp, nm, la, ls, tx, v4, v5, rfl, by rw [e], h4, h5, one h4, one h5⟩
 | agg vs cs h1 h2 h3 =>
  obtain ⟨v4, v5, e, h4, h5⟩ := key vs h1 h3
  exact ⟨p, k, sp, nm, la, ls, tx, v4, v5, rfl, by rw [e], h4, h5, one h4, one h5⟩
theorem node_den {F : Nat → Nat → Prop} {w : World} {p k : Int} {sp nm tx : List UInt8} {la ls : List D} {v4 v5 : Value} (h4 : Den0 F w v4 (.list la)) (h5 : Den0 F w v5 (.list ls)) (o4 : v4.oneCell' = true) (o5 : v5.oneCell' = true) :
  Den0 F w (.agg #[.int .i64 p, .int .i64 k, .string ⟨sp.toArray⟩, .string ⟨nm.toArray⟩, v4, v5, .string ⟨tx.toArray⟩]) (.agg [.int .i64 p, .int .i64 k, .str sp, .str nm, .list la, .list ls, .str tx]) := by
 refine Den0.agg [.int .i64 p, .int .i64 k, .string ⟨sp.toArray⟩, .string ⟨nm.toArray⟩, v4, v5, .string ⟨tx.toArray⟩] _ rfl ?_ ?_
 ·intro u hu
  simp only [List.mem_cons, List.not_mem_nil, or_false] at hu
  rcases hu with rfl | rfl | rfl | rfl | rfl | rfl | rfl <;> first | rfl | exact o4 | exact o5
 ·intro i v x hv hx
  match i with
  | 0 => simp at hv hx; subst hv; subst hx; exact .int _ _
  | 1 => simp at hv hx; subst hv; subst hx; exact .int _ _
  | 2 => simp at hv hx; subst hv; subst hx; exact .str _
  | 3 => simp at hv hx; subst hv; subst hx; exact .str _
  | 4 => simp at hv hx; subst hv; subst hx; exact h4
  | 5 => simp at hv hx; subst hv; subst hx; exact h5
  | 6 => simp at hv hx; subst hv; subst hx; exact .str _
  | i + 7 => simp at hv
def orExt (a b : Call) : Call := fun f args pbs => match a f args pbs with | some r => some r | none => b f args pbs
theorem orExt_ok {P : Program} [Gs] {a b : Call} (ha : CallOK P a) (hb : CallOK P b) : CallOK P (orExt a b) := by
 intro f args pbs d r pbs' h
 unfold orExt at h
 split at h
 ·rename_i x hx
  injection h with h
  subst h
  exact ha f args pbs d r pbs' hx
 ·exact hb f args pbs d r pbs' h
end Go.Av
namespace Go.Av
open Go.Proofs Go.RowKit Go.Proofs.YtcogfddcdpgpkaaGreatDoor
def extCl : Call := fun f args pbs => match f, args, pbs with
 | 61, [.list es], [] => if szAll 1 es = true then some (.list es, [], []) else none
 | 58, [.list es], [] => if szAll 3 es = true then some (.list es, [], []) else none
 | 59, [.list es], [] => if szAll 1 es = true then some (.list es, [], []) else none
 | 32, [d], [] => if isNode d = true then some (d, [], []) else none
 | _, _, _ => none
theorem extCl_ok : CallOK Tryz.prog extCl := by
 intro f args pbs d r pbs' h
 unfold extCl at h
 split at h
 ·rename_i es
  split at h
  ·rename_i hc
   obtain ⟨hs, hl⟩ := szAll_inv hc
   simp only [Option.some.injEq, Prod.mk.injEq] at h
   obtain ⟨rfl, rfl, rfl⟩ := h
   refine ⟨⟨_, Tryz.func61, rfl⟩, fun vals w F μ hv hd hb _ hlt hg => ?_⟩
   obtain ⟨v, rfl, h0⟩ := one_den hv hd
   exact (clone32_any es F w v hlt (den_list0 h0) hs (by omega)).mono fun e w' h => h.ret hlt
  ·cases h
 ·rename_i es
  split at h
  ·rename_i hc
   obtain ⟨hs, hl⟩ := szAll_inv hc
   simp only [Option.some.injEq, Prod.mk.injEq] at h
   obtain ⟨rfl, rfl, rfl⟩ := h
   refine ⟨⟨_, Tryz.func58, rfl⟩, fun vals w F μ hv hd hb _ hlt hg => ?_⟩
   obtain ⟨v, rfl, h0⟩ := one_den hv hd
   exact (clone46_any es F w v hlt (den_list0 h0) hs (by omega)).mono fun e w' h => h.ret hlt
  ·cases h
 ·rename_i es
  split at h
  ·rename_i hc
   obtain ⟨hs, hl⟩ := szAll_inv hc
   simp only [Option.some.injEq, Prod.mk.injEq] at h
   obtain ⟨rfl, rfl, rfl⟩ := h
   refine ⟨⟨_, Tryz.func59, rfl⟩, fun vals w F μ hv hd hb _ hlt hg => ?_⟩
   obtain ⟨v, rfl, h0⟩ := one_den hv hd
   exact (clone47_any es F w v hlt (den_list0 h0) hs (by omega)).mono fun e w' h => h.ret hlt
  ·cases h
 ·rename_i d0
  split at h
  ·rename_i hc
   simp only [Option.some.injEq, Prod.mk.injEq] at h
   obtain ⟨rfl, rfl, rfl⟩ := h
   refine ⟨⟨_, Tryz.func32, rfl⟩, fun vals w F μ hv hd hb _ hlt hg => ?_⟩
   obtain ⟨v, rfl, h0⟩ := one_den hv hd
   obtain ⟨p, k, sp, nm, la, ls, tx, v4, v5, rfl, rfl, h4, h5, o4, o5⟩ := node_pure hc h0
   obtain ⟨_, _, _, _, la', ls', _, e, s4, s5, l4, l5⟩ := isNode_inv hc
   simp only [D.agg.injEq, List.cons.injEq, D.list.injEq, and_true] at e
   obtain ⟨_, _, _, _, rfl, rfl, _⟩ := e
   refine (copied_any p k ⟨sp.toArray⟩ ⟨nm.toArray⟩ ⟨tx.toArray⟩ v4 v5 la ls F w hlt h4 h5 s4 s5 (by omega) (by omega) o4 o5).mono ?_
   rintro e w' ⟨u4, u5, rfl, hG, q4, q5, p4, p5⟩
   exact (RetD.of hG (node_den q4 q5 p4 p5)).ret hlt
  ·cases h
 ·cases h
end Go.Av
