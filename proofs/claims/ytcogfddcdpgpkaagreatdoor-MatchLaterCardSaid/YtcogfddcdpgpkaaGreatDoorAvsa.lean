/- The evaluator, in one text: over any program; no conditions but those that each law names. -/
import Derived.RangeFuncNested
import Derived.RangeFuncBound
import Derived.RangeFuncCalls
import Derived.RangeFuncLeaves
import Derived.RangeFuncFrom
import Derived.Shelf.Abstract
import Derived.Shelf.RegionOpen
import Derived.WalkKit
import Derived.OwnWalkIn
import Derived.TacticsInMore
import Derived.LoopNIn
import Derived.LoopIn
import Derived.Test.YtcogfddcdpgpkaaGreatDoorProg
import Derived.Test.YtcogfddcdpgpkaaGreatDoorAvb
import Derived.KernelRfl
import GoSem.PinnedTables
import Derived.Test.YtcogfddcdpgpkaaGreatDoorApp
import Derived.Test.YtcogfddcdpgpkaaGreatDoorOwn
import Derived.Test.YtcogfddcdpgpkaaGreatDoorChecked
import Derived.Test.YtcogfddcdpgpkaaGreatDoorStp
import Derived.Deep.QuietTactic
import Derived.BigQuiet
import Derived.Maps.GroupsBeside
import Derived.Deep.CutRange
import Derived.Deep.RegionHeldLaw
import Derived.Test.YtcogfddcdpgpkaaGreatDoorGd
set_option linter.unusedSimpArgs false
set_option linter.unusedVariables false
set_option linter.unusedSectionVars false
namespace Go.Proofs.YtcogfddcdpgpkaaGreatDoor
open Go.Proofs Go.RowKit Go.Shelf
attribute [local go_sem] Oper.semAt_some
structure Sm where
  kind : Int
  ns : Int
  pre : ByteArray
  nm : ByteArray
  op : Int
  tx : ByteArray
  fold : Bool
  mark : Int
  a : Int
  b : Int
  of_ : Option Addr
  n : Nat
  c : Nat
def Sm.cells (s : Sm) : List Value := [.int .i64 s.kind, .int .i64 s.ns, .string s.pre, .string s.nm, .int .i64 s.op, .string s.tx, .bool s.fold, .int .i64 s.mark, .int .i64 s.a, .int .i64 s.b, .slice s.of_ s.n s.c]
def Sm.val (s : Sm) : Value := .agg #[.int .i64 s.kind, .int .i64 s.ns, .string s.pre, .string s.nm, .int .i64 s.op, .string s.tx, .bool s.fold, .int .i64 s.mark, .int .i64 s.a, .int .i64 s.b, .slice s.of_ s.n s.c]
def upto (N : Nat) (k : Nat) : List (Fin N) := (List.finRange N).take k
theorem upto_succ {N k : Nat} (h : k < N) : upto N (k + 1) = upto N k ++ [⟨k, h⟩] := by
  unfold upto
  rw [List.take_succ_eq_append_getElem (by simpa using h)]
  simp
theorem upto_length {N k : Nat} (h : k ≤ N) : (upto N k).length = k := by
  unfold upto
  simp [h]
theorem upto_all (N : Nat) : upto N N = List.finRange N := by
  unfold upto
  rw [List.take_of_length_le (by simp)]
end Go.Proofs.YtcogfddcdpgpkaaGreatDoor
namespace Go.Proofs.YtcogfddcdpgpkaaGreatDoor
open Go.Proofs Go.RowKit Go.Shelf
attribute [local go_sem] Oper.semAt_some
def BoxR (W : World) (B : Nat) (t : TypeId) (C : Array Value) : Prop := W.heap[B]? = some (.cells C t (0, 0))
theorem BoxR.lt {W : World} {B : Nat} {t : TypeId} {C : Array Value} (h : BoxR W B t C) : B < W.heap.size := (Array.getElem?_eq_some_iff.1 h).1
theorem BoxR.cell {W : World} {B : Nat} {t : TypeId} {C : Array Value} (h : BoxR W B t C) (j : Nat) : W.cell? ⟨B, j, none⟩ = C[j]? := by simp [World.cell?, show W.heap[B]? = _ from h]
theorem BoxR.frozen {W : World} {B : Nat} {t : TypeId} {C : Array Value} (h : BoxR W B t C) (j : Nat) : W.frozen? ⟨B, j, none⟩ = false := by simp [World.frozen?, show W.heap[B]? = _ from h]
theorem BoxR.new (W : World) (t : TypeId) (C : Array Value) : BoxR (W.alloc (.cells C t)) W.heap.size t C := World.alloc_heap_new W _
theorem BoxR.kept {W W' : World} {row : Option Nat} {B : Nat} {t : TypeId} {C : Array Value} (h : BoxR W B t C) (hg : W.grownBy W' row) (hne : some B ≠ row) : BoxR W' B t C := (hg.block B h.lt hne).trans h
theorem BoxR.alloc {W : World} {B : Nat} {t : TypeId} {C : Array Value} (h : BoxR W B t C) (o : Obj) : BoxR (W.alloc o) B t C := h.kept (World.grownBy_alloc W o none) (by simp)
theorem BoxR.below {W W' : World} {B n : Nat} {t : TypeId} {C : Array Value} (h : BoxR W B t C) (hb : Below n W W') (hn : B < n) : BoxR W' B t C := (hb.block B hn).trans h
theorem boxR_own {β : Type} (B : Nat) (t : TypeId) (f : β → Array Value) : Own (fun s W => BoxR W B t (f s)) := fun s X Y row hs hg hrow =>
  hs.kept hg (fun e' => by obtain ⟨o, ho, hc⟩ := hrow B e'.symm; rw [show X.heap[B]? = _ from hs] at ho; cases ho; cases hc)
theorem keeps_below {W W' : World} (h : Below W.heap.size W W') : KeepsOthers W W' := by
  refine ⟨h.size, fun b o hb _ => ?_⟩
  exact (h.block b (Array.getElem?_eq_some_iff.1 hb).1).trans hb
end Go.Proofs.YtcogfddcdpgpkaaGreatDoor
set_option maxRecDepth 100000
namespace Go.Proofs.YtcogfddcdpgpkaaGreatDoor
open Go.Proofs Go.RowKit Go.Shelf
def findR (n : Nat) : Code → Option (Array Oper)
  | .region k ops _ => if k == n then some ops else none
  | .seq a b => (findR n a).or (findR n b)
  | .cond _ a b => (findR n a).or (findR n b)
  | .block _ a => findR n a
  | .loop a => findR n a
  | .rangeFunc _ _ a b => (findR n a).or (findR n b)
  | _ => none
noncomputable def ops4 : Array Oper := (Tryz.f48.body.bind (findR 4)).getD #[]
theorem ready_at {listed : Array Bool} {i : Nat} {o : Oper} {ops : Array Oper} (h : i ∈ Region.ready .any ops listed) (ho : ops[i]? = some o) :
    listed.getD i true = false ∧ (o.after.all fun e => !Region.binds .any e || listed.getD e.on false) = true := by
  unfold Region.ready at h
  rw [List.mem_filter] at h
  simpa [ho] using h.2
theorem ready_lt {listed : Array Bool} {i : Nat} {ops : Array Oper} (h : i ∈ Region.ready .any ops listed) : i < ops.size := by
  unfold Region.ready at h
  rw [List.mem_filter] at h
  simpa using h.1
theorem any_inv {F : Fence} {n : Nat} {P : Program} {ops : Array Oper} {Q : Exit → Act → World → Prop} (Inv : Array Bool → Act → World → Prop) (hsz : ∀ listed a w, Inv listed a w → listed.size = ops.size)
    (step : ∀ listed a w i, Inv listed a w → i ∈ Region.ready .any ops listed → wpOpIn F n P ops Q i (fun a' w' => Inv (listed.setIfInBounds i true) a' w') a w)
    (done : ∀ listed a w, Inv listed a w → Region.ready .any ops listed = [] → Q .normal a w) :
    ∀ (fuel : Nat) (listed : Array Bool) (a : Act) (w : World), Inv listed a w → listed.toList.count false ≤ fuel → wpAnyIn F n P .any ops Q fuel listed a w
  | 0, listed, a, w, h, hf => by
    have hr : Region.ready .any ops listed = [] := by
      rw [List.eq_nil_iff_forall_not_mem]
      intro i hi
      have hlt := ready_lt hi
      have h1 := (ready_at (o := ops[i]) hi (Array.getElem?_eq_getElem hlt)).1
      have hl : i < listed.size := by rw [hsz _ _ _ h]; exact hlt
      have h2 : listed[i] = false := by simpa [Array.getD, hl] using h1
      have h3 : false ∈ listed.toList := by rw [← h2]; exact Array.getElem_mem_toList hl
      have := List.count_pos_iff.2 h3
      omega
    exact ⟨hr, done _ _ _ h hr⟩
  | fuel + 1, listed, a, w, h, hf => by
    refine ⟨fun hr => done _ _ _ h hr, fun i hi => ?_⟩
    refine wpOpIn_mono (fun a' w' hI => any_inv Inv hsz step done fuel _ a' w' hI ?_) (step _ _ _ i h hi)
    have hlt := ready_lt hi
    have h1 := (ready_at (o := ops[i]) hi (Array.getElem?_eq_getElem hlt)).1
    have hl : i < listed.size := by rw [hsz _ _ _ h]; exact hlt
    have h2 : listed[i] = false := by simpa [Array.getD, hl] using h1
    have h3 : (listed.setIfInBounds i true).toList.count false + 1 ≤ listed.toList.count false := by
      rw [Array.toList_setIfInBounds, List.count_set (by simpa using hl)]
      have this' : listed.toList[i]'(by simpa using hl) = false := by simpa using h2
      have h3 : false ∈ listed.toList := by rw [← h2]; exact Array.getElem_mem_toList hl
      have := List.count_pos_iff.2 h3
      rw [this']
      simp only [beq_self_eq_true, if_true, show (true == false) = false from rfl, Bool.false_eq_true, if_false]
      omega
    omega

noncomputable def dst4 (i : Nat) : Option Nat := (ops4[i]?).bind (·.dst)
noncomputable def deps4 (i : Nat) : List Nat := ((ops4[i]?).map fun o => (o.after.toList.filter fun e => Region.binds .any e).map (·.on)).getD []
theorem deps_of {listed : Array Bool} {i : Nat} (h : i ∈ Region.ready .any ops4 listed) {d : Nat} (hd : (deps4 i).contains d = true) : listed.getD d false = true := by
  have hlt := ready_lt h
  have h2 := (ready_at (o := ops4[i]) h (Array.getElem?_eq_getElem hlt)).2
  rw [List.contains_iff_mem] at hd
  unfold deps4 at hd
  rw [Array.getElem?_eq_getElem hlt] at hd
  simp only [Option.map_some, Option.getD_some, List.mem_map, List.mem_filter] at hd
  obtain ⟨e, ⟨he, hb⟩, rfl⟩ := hd
  have := (Array.all_eq_true_iff_forall_mem.1 h2) e (by simpa using he)
  simpa [hb] using this
def V4 (B1 B4 : Nat) (x0 x1 x2 y0 y1 y2 : Int) : Nat → Value
  | 11 => .pointer (some ⟨B1, 0, none⟩) | 12 => .int .i64 x0 | 13 => .pointer (some ⟨B4, 0, none⟩) | 14 => .int .i64 y0 | 15 => .int .i64 (wrap64 (x0 + y0))
  | 16 => .pointer (some ⟨B1, 1, none⟩) | 17 => .int .i64 x1 | 18 => .pointer (some ⟨B4, 1, none⟩) | 19 => .int .i64 y1 | 20 => .int .i64 (wrap64 (x1 + y1))
  | 21 => .pointer (some ⟨B1, 2, none⟩) | 22 => .int .i64 x2 | 23 => .pointer (some ⟨B4, 2, none⟩) | 24 => .int .i64 y2 | 25 => .int .i64 (wrap64 (x2 + y2))
  | 26 => .pointer (some ⟨B1, 0, none⟩) | 27 => .pointer (some ⟨B1, 1, none⟩) | 28 => .pointer (some ⟨B1, 2, none⟩)
  | _ => undef
theorem dst_inj : ((List.range 21).all fun i => (List.range 21).all fun j => i == j || (dst4 i).isNone || !(dst4 i == dst4 j)) = true := by kernel_rfl
theorem dst_rng : ((List.range 21).all fun i => match dst4 i with | some d => decide (11 ≤ d) && decide (d < 29) | none => true) = true := by kernel_rfl
theorem BoxR.set {w : World} {B : Nat} {t : TypeId} {C : Array Value} (h : BoxR w B t C) (j : Nat) (v : Value) : BoxR (w.setCell ⟨B, j, none⟩ v) B t (C.setIfInBounds j v) := by
  unfold BoxR at *
  simp [World.setCell, Array.getElem?_modify, h]
structure I4 (n₀ B1 B4 : Nat) (x0 x1 x2 y0 y1 y2 : Int) (W3 : World) (listed : Array Bool) (a : Act) (w : World) : Prop where
  sz : listed.size = 21
  tz : a.tmps.size = 30
  t2 : a.tmps.getD 2 undef = .pointer (some ⟨B1, 0, none⟩)
  t4 : a.tmps.getD 4 undef = .pointer (some ⟨B4, 0, none⟩)
  val : ∀ i d, i < 21 → dst4 i = some d → listed.getD i false = true → a.tmps.getD d undef = V4 B1 B4 x0 x1 x2 y0 y1 y2 d
  cl : ∀ i d, (deps4 i).contains d = true → listed.getD i false = true → listed.getD d false = true
  sum : BoxR w B1 63 #[.int .i64 (if listed.getD 16 false = true then wrap64 (x0 + y0) else x0), .int .i64 (if listed.getD 18 false = true then wrap64 (x1 + y1) else x1), .int .i64 (if listed.getD 20 false = true then wrap64 (x2 + y2) else x2)]
  src : BoxR w B4 63 #[.int .i64 y0, .int .i64 y1, .int .i64 y2]
  ko : KeepsOthers W3 w
  be : Below n₀ W3 w
theorem set_get {listed : Array Bool} {i j : Nat} (h : i < listed.size) : (listed.setIfInBounds i true).getD j false = if j = i then true else listed.getD j false := by
  by_cases hj : j = i
  · subst hj; simp [Array.getD, h]
  · rw [if_neg hj]
    simp only [Array.getD_eq_getD_getElem?, Array.getElem?_setIfInBounds_ne (fun e => hj e.symm)]
section
variable {n₀ B1 B4 : Nat} {x0 x1 x2 y0 y1 y2 : Int} {W3 : World} {listed : Array Bool} {a : Act} {w : World}
theorem I4.put (h : I4 n₀ B1 B4 x0 x1 x2 y0 y1 y2 W3 listed a w) {i d : Nat} (hi : i < 21) (hr : i ∈ Region.ready .any ops4 listed) (hd : dst4 i = some d) (h1 : i ≠ 16) (h2 : i ≠ 18) (h3 : i ≠ 20) :
    I4 n₀ B1 B4 x0 x1 x2 y0 y1 y2 W3 (listed.setIfInBounds i true) (a.put (some d) (V4 B1 B4 x0 x1 x2 y0 y1 y2 d)) w := by
  have hs : i < listed.size := by rw [h.sz]; exact hi
  have hrng := List.all_eq_true.1 dst_rng i (by simpa using hi)
  rw [hd] at hrng
  simp only [Bool.and_eq_true, decide_eq_true_eq] at hrng
  have hget : ∀ k v, k ≠ d → (a.put (some d) v).tmps.getD k undef = a.tmps.getD k undef := fun k v hk => by
    show (a.tmps.setIfInBounds d v).getD k undef = _
    simp only [Array.getD_eq_getD_getElem?, Array.getElem?_setIfInBounds_ne (fun e => hk e.symm)]
  refine ⟨by simp [h.sz], by simp [Act.put, h.tz], (hget 2 _ (by omega)).trans h.t2, (hget 4 _ (by omega)).trans h.t4, fun j e hj he hl => ?_, fun j e he hl => ?_, ?_, h.src, h.ko, h.be⟩
  · rw [set_get hs] at hl
    by_cases hji : j = i
    · subst hji
      rw [hd] at he
      obtain rfl := Option.some.inj he
      show (a.tmps.setIfInBounds d _).getD d undef = _
      simp [Array.getD, h.tz, (show d < 30 by omega)]
    · rw [if_neg hji] at hl
      have hinj := List.all_eq_true.1 (List.all_eq_true.1 dst_inj i (by simpa using hi)) j (by simpa using hj)
      rw [hd, he] at hinj
      have hne : e ≠ d := by
        rintro rfl
        simp [Ne.symm hji] at hinj
      rw [hget e _ hne]
      exact h.val j e hj he hl
  · rw [set_get hs] at hl ⊢
    by_cases hji : j = i
    · subst hji
      have := deps_of hr he
      split
      · rfl
      · exact this
    · rw [if_neg hji] at hl
      split
      · rfl
      · exact h.cl j e he hl
  · rw [set_get hs, set_get hs, set_get hs, if_neg (Ne.symm h1), if_neg (Ne.symm h2), if_neg (Ne.symm h3)]
    exact h.sum

theorem BoxR.other {w : World} {B B' : Nat} {t : TypeId} {C : Array Value} (h : BoxR w B t C) (hne : B' ≠ B) (j : Nat) (v : Value) : BoxR (w.setCell ⟨B', j, none⟩ v) B t C := by
  unfold BoxR at *
  simp [World.setCell, Array.getElem?_modify, h, hne]
theorem not_yet (h : I4 n₀ B1 B4 x0 x1 x2 y0 y1 y2 W3 listed a w) {i d : Nat} (hr : i ∈ Region.ready .any ops4 listed) (hd : (deps4 d).contains i = true) : listed.getD d false = false := by
  have hlt := ready_lt hr
  have h1 := (ready_at (o := ops4[i]) hr (Array.getElem?_eq_getElem hlt)).1
  cases hl : listed.getD d false with
  | false => rfl
  | true =>
    have h2 := h.cl d i hd hl
    have hi : i < listed.size := by rw [h.sz]; exact hlt
    simp [Array.getD, hi] at h1 h2
    rw [h1] at h2
    cases h2
end
end Go.Proofs.YtcogfddcdpgpkaaGreatDoor
namespace Go.Proofs.YtcogfddcdpgpkaaGreatDoor
open Go.Proofs Go.RowKit Go.Shelf
attribute [local go_sem] Oper.semAt_some
end Go.Proofs.YtcogfddcdpgpkaaGreatDoor
namespace Go.Av
open Go.Proofs
def firstN (c : Nat) : Nat := Go.Pinned.utf8FirstZ.getD c 0
def firstD : List D := (List.range 256).map fun c => .int .u8 (firstN c : Nat)
def accN : List Nat := [128, 191, 160, 191, 128, 159, 144, 191, 128, 143, 0, 0, 0, 0, 0, 0, 0, 0, 0, 0, 0, 0, 0, 0, 0, 0, 0, 0, 0, 0, 0, 0]
def accD : List D := accN.map fun n => .int .u8 (n : Nat)
def stS : List (List UInt8) := [[104, 111, 118, 101, 114], [97, 99, 116, 105, 118, 101], [102, 111, 99, 117, 115], [102, 111, 99, 117, 115, 45, 118, 105, 115, 105, 98, 108, 101], [118, 105, 115, 105, 116, 101, 100], [108, 105, 110, 107], [99, 104, 101, 99, 107, 101, 100], [100, 105, 115, 97, 98, 108, 101, 100], [101, 110, 97, 98, 108, 101, 100], [116, 97, 114, 103, 101, 116]]
def stD : List D := stS.map .str
def frzOps : List Oper → List Tmp
  | [] => []
  | o :: l => (match o.op with
    | .makeFunc _ _ c => c.toList.filterMap (fun | .tmp t => some t | _ => none)
    | _ => []) ++ frzOps l
instance g12 : Gs where
  gl := fun g => if g = 1 then .fix (.agg stD) 0 else if g = 2 then .fix (.agg firstD) 0 else if g = 3 then .fix (.agg accD) 0 else .bad
  rowAt := fun o => match o.op with | .convert s d (.tmp l) => s == 9 && d == 74 && l == 6 && o.dst == some 7 | _ => false
  frzAt := fun l => match l with
    | o :: _ => (match o.op with | .move (.tmp n) => if (n == 3 && o.dst == some 23 && o.type == 74) = true then [3] else frzOps l | _ => frzOps l)
    | [] => []
  gx := [(4, fun d => ∃ m : Int, d = .fix (.int .i64 m) 0)]
theorem mx12 : Tryz.prog.follows .mixedOrders = true := by kernel_rfl
theorem nm12 : (Tryz.prog.funcs.all fun fn => !(fn.name == "runtime.NumGoroutine")) = true := by kernel_rfl
theorem fineS : Fine Tryz.prog := by
  refine ⟨mx12, fun f fn hf => ?_⟩
  have h := Array.all_eq_true_iff_forall_mem.1 nm12 fn (Array.mem_of_getElem? hf)
  simpa using h
end Go.Av
namespace Go.Av
open Go.Proofs Go.RowKit Go.Proofs.YtcogfddcdpgpkaaGreatDoor
def nw (F : Nat → Nat → Prop) (w w' : World) : Nat → Nat → Prop := fun b o => F b o ∨ (w.heap.size ≤ b ∧ b < w'.heap.size)
theorem ext_nw {F : Nat → Nat → Prop} {w w' : World} (hlt : Lt F w) (hb : Below w.heap.size w w') : Ext (fun _ => False) F w (nw F w w') w' := by
  refine ⟨hb.os, hb.tape, hb.output, hb.size, fun b h _ => hb.block b h, fun b o h => .inl h, fun b o h => ?_, fun b es c hf hm => (hb.block b (hlt b 0 hf)).trans hm⟩
  unfold World.cell?
  rw [hb.block b (hlt b o h)]
theorem lt_nw {F : Nat → Nat → Prop} {w w' : World} (hlt : Lt F w) (hb : Below w.heap.size w w') : Lt (nw F w w') w' := by
  rintro b o (h | h)
  · exact Nat.lt_of_lt_of_le (hlt b o h) hb.size
  · exact h.2
theorem Den0.grow {F F' : Nat → Nat → Prop} {w : World} {v : Value} {d : D} (h : Den0 F w v d) (hF : ∀ b o, F b o → F' b o) : Den0 F' w v d :=
  h.ext (S := fun _ => False) ⟨rfl, rfl, rfl, Nat.le_refl _, fun _ _ _ => rfl, hF, fun _ _ _ => rfl, fun _ _ _ _ hm => hm⟩
def RetD (F : Nat → Nat → Prop) (w : World) (d : D) (e : Ending) (w' : World) : Prop := ∃ v, e = .returned v ∧ Below w.heap.size w w' ∧ ∀ c ν, Den c ν (nw F w w') w' v d
theorem RetD.ret [Gs] {P : Program} {μ : Mu} {F : Nat → Nat → Prop} {w w' : World} {d : D} {e : Ending} (hlt : Lt F w) (h : RetD F w d e w') : Ret P 0 μ F w d [] [] e w' := by
  obtain ⟨v, rfl, hb, hv⟩ := h
  refine ⟨v, nw F w w', fun _ _ => none, rfl, (ext_nw hlt hb).weaken (fun _ _ h => h.elim), lt_nw hlt hb, fun b o h => h.imp id fun h => .inl h.1, .inl ⟨rfl, hv, rooms_nil⟩, fun j i g h => ?_, fun j i j' i' g h => ?_, fun i bx hi => absurd hi (Nat.not_lt_zero i)⟩
  · cases h
  · cases h
theorem RetD.of {F : Nat → Nat → Prop} {w w' : World} {v : Value} {d : D} (hb : Below w.heap.size w w') (hv : Den0 (nw F w w') w' v d) : RetD F w d (.returned v) w' := ⟨v, rfl, hb, fun _ _ => .pure _ _ hv⟩
theorem Ret.retD [Gs] {P : Program} {μ : Mu} {F : Nat → Nat → Prop} {w w' : World} {d : D} {r : List Room} {e : Ending} (h : Ret P 0 μ F w d r [] e w') : RetD F w d e w' := by
  obtain ⟨v, F', nc, rfl, hE, hlt, hn, hv, _⟩ := h
  refine ⟨v, rfl, ⟨hE.os, hE.tape, hE.output, hE.size, fun b hb => hE.block b hb (S_zero _ b)⟩, ?_⟩
  rcases hv with ⟨_, hv, _⟩ | ⟨h1, _⟩
  · exact fun c ν => (hv c ν).ext (S := fun _ => False) ⟨rfl, rfl, rfl, Nat.le_refl _, fun _ _ _ => rfl, fun b o h => (hn b o h).imp id fun h' => ⟨h'.resolve_right (C_zero _ b), hlt b o h⟩, fun _ _ _ => rfl, fun _ _ _ _ hm => hm⟩
  · simp at h1
theorem list_sl {F : Nat → Nat → Prop} {w : World} {v : Value} {es : List D} {sz : Nat} (hlt : Lt F w) (h : Den0 F w v (.list es)) (hs : ∀ e ∈ es, (dcells e).length = sz) :
    ∃ a c vs, v = .slice a es.length c ∧ es.length ≤ c ∧ vs.length = es.length * sz ∧ Sl w w.heap.size a vs ∧ (∀ u ∈ vs, u.oneCell' = true) ∧ ∀ (i : Nat) (v : Value) (x : D), vs[i]? = some v → (flat es)[i]? = some x → Den0 F w v x := by
  cases h with
  | list a n c sz' es vs h1 h2 h3 h4 h5 h6 h7 =>
    subst h1
    have hl : vs.length = es.length * sz := by
      rcases es with _ | ⟨e0, r0⟩
      · simpa using h5
      · rw [h5, ← h4 e0 (by simp), ← hs e0 (by simp)]
    refine ⟨a, c, vs, rfl, h2, hl, ?_, ?_, h7⟩
    · intro hne
      rcases h6 with h6 | ⟨b, off, ha, hc⟩
      · exact absurd h6 hne
      · refine ⟨b, off, ha, ?_, fun i hi => (hc i _ (List.getElem?_eq_getElem hi)).2.1⟩
        have := (hc 0 _ (List.getElem?_eq_getElem (List.length_pos_iff.2 hne))).1
        exact hlt _ _ this
    · intro u hu
      rcases h6 with h6 | ⟨b, off, ha, hc⟩
      · rw [h6] at hu; cases hu
      · obtain ⟨i, hi⟩ := List.mem_iff_getElem?.1 hu
        exact (hc i _ hi).2.2
theorem own_den {F : Nat → Nat → Prop} {w : World} {base n sz : Nat} {e : TypeId} {v : Value} {vs : List Value} {es : List D} (hown : OwnR w base e sz v n vs) (hn : n = es.length) (hsz : 0 < sz) (hs : ∀ e ∈ es, (dcells e).length = sz)
    (hF : ∀ b o, base ≤ b → b < w.heap.size → F b o) (h1 : ∀ u ∈ vs, u.oneCell' = true) (hd : ∀ (i : Nat) (v : Value) (x : D), vs[i]? = some v → (flat es)[i]? = some x → Den0 F w v x) : Den0 F w v (.list es) := by
  rcases hown with ⟨h0, hv0, A, rfl⟩ | ⟨hl, ⟨rfl, h0⟩ | ⟨g, cap, cur, rfl, hg, hh, hc, hm, hcs, ht⟩⟩
  · subst hv0
    exact .list A 0 0 sz es [] (by omega) (Nat.le_refl _) hsz hs (by simp) (.inl rfl) hd
  · exact .list none 0 0 sz es vs (by omega) (Nat.le_refl _) hsz hs (by rw [hl, h0]) (.inl (List.eq_nil_of_length_eq_zero (by rw [hl, h0]; simp))) hd
  · refine .list _ n cap sz es vs hn.symm hc hsz hs hl (.inr ⟨g, 0, rfl, fun i v hv => ?_⟩) hd
    have hgl : g < w.heap.size := (Array.getElem?_eq_some_iff.1 hh).1
    refine ⟨hF _ _ hg hgl, ?_, h1 v (List.mem_of_getElem? hv)⟩
    rw [← ht, List.getElem?_take] at hv
    split at hv
    · unfold World.cell?
      simp only [hh, Nat.zero_add]
      simpa using hv
    · cases hv
theorem one_den {c : Nat → Nat} {ν : Nat → Nat → Nat} {F : Nat → Nat → Prop} {w : World} {vals : List Value} {d : D} (hl : vals.length = [d].length) (h : ∀ (i : Nat) (v : Value) (x : D), vals[i]? = some v → [d][i]? = some x → Den c ν F w v x) : ∃ v, vals = [v] ∧ Den c ν F w v d := by
  match vals, hl with
  | [v], _ => exact ⟨v, rfl, h 0 v d rfl rfl⟩

def noPtr : D → Bool
  | .int _ _ | .str _ | .bool _ | .con _ => true
  | _ => false
theorem noPtr_den {F F' : Nat → Nat → Prop} {w w' : World} {v : Value} {x : D} (hx : noPtr x = true) (h : Den0 F w v x) : Den0 F' w' v x := by
  cases h with
  | int k n => exact .int k n
  | str l => exact .str l
  | bool b => exact .bool b
  | con v h => exact .con v h
  | list => cases hx
  | agg => cases hx
  | fix => cases hx
  | iface => cases hx
  | func => cases hx
  | imap => cases hx
def Keep (F G : Nat → Nat → Prop) (w : World) (es : List D) : Prop := ∀ (W : World) (v : Value) (x : D), x ∈ flat es → Below w.heap.size w W → Den0 F w v x → Den0 (nw G w W) W v x
theorem Keep.same {F : Nat → Nat → Prop} {w : World} {es : List D} (hlt : Lt F w) : Keep F F w es := fun W v x _ hb h => h.ext (ext_nw hlt hb)
theorem Keep.leaf {F G : Nat → Nat → Prop} {w : World} {es : List D} (h : ∀ x ∈ flat es, noPtr x = true) : Keep F G w es := fun W v x hx _ hd => noPtr_den (h x hx) hd
theorem ei39 : EI Tryz.prog 81 3 1 8 := EI.mk (z := .int .i64 0) (by kernel_rfl) (by kernel_rfl) rfl (by decide)
theorem clone32_gen (es : List D) (F G : Nat → Nat → Prop) (w : World) (v : Value) (hlt : Lt F w) (hd : Den0 F w v (.list es)) (hk : Keep F G w es) (hs : ∀ e ∈ es, (dcells e).length = 1) (hL : es.length ≤ 1000000000) :
    Calls Tryz.prog 61 #[v] w (RetD G w (.list es)) := by
  obtain ⟨a, c, vs, rfl, hc, hvl, hsl, h1, hx⟩ := list_sl hlt hd hs
  have hs0 := hsl.alloc (Nat.le_refl _) (.cells #[] 3)
  have ho0 : OwnR (w.alloc (.cells #[] 3)) w.heap.size 3 1 (.slice (some ⟨w.heap.size, 0, none⟩) 0 0) 0 [] := .inl ⟨rfl, rfl, _, rfl⟩
  cases a with
  | none =>
    have hvs : vs = [] := by
      apply Classical.byContradiction
      intro hne
      obtain ⟨b, off, e, _⟩ := hsl hne
      cases e
    have he : es = [] := List.eq_nil_of_length_eq_zero (by rw [hvs] at hvl; simp at hvl; omega)
    subst he
    have qT : ∀ (w : World) (a : Option Addr) (n c : Nat), (binOp .eql 81 (.slice a n c) (.slice none 0 0)).run Tryz.prog w = .ok (.bool a.isNone) w := fun w a n c => Lib.run_eql_slice_nil w _ _ a n c 0 0 (show Tryz.prog.underlying 81 = some (.slice 3) by kernel_rfl)
    go_enter Tryz.func61, Tryz.ntmps61
    go_wp2_with fail
    go_ret
    exact RetD.of (Below.refl _ _) (.list none 0 0 1 [] [] rfl (Nat.le_refl _) (by decide) hs rfl (.inl rfl) (by simp))
  | some p =>
    have qT : ∀ (w : World) (a : Option Addr) (n c : Nat), (binOp .eql 81 (.slice a n c) (.slice none 0 0)).run Tryz.prog w = .ok (.bool a.isNone) w := fun w a n c => Lib.run_eql_slice_nil w _ _ a n c 0 0 (show Tryz.prog.underlying 81 = some (.slice 3) by kernel_rfl)
    go_enter Tryz.func61, Tryz.ntmps61
    go_wp2_with (at_builtin; refine app_slR _ rfl (.tmp 5) (.tmp 6) 81 rfl ei39 w.heap.size _ 0 [] rfl ho0 w.heap.size (some p) es.length c vs rfl hs0 hvl h1 (by simp only [maxLen]; omega) (by omega) (by simp) ?_; intro v w1 ho1 hg1 hb1)
    go_ret
    have hb : Below w.heap.size w w1 := ((Below.refl _ w).alloc (Nat.le_refl _) _).trans hb1
    refine RetD.of hb (own_den ho1 (by simp) (by decide) hs (fun b o h1 h2 => .inr ⟨h1, h2⟩) (by simpa using h1) fun i v x hv hxx => ?_)
    exact hk _ _ _ (List.mem_of_getElem? hxx) hb (hx i v x (by simpa using hv) hxx)

theorem clone32_any (es : List D) (F : Nat → Nat → Prop) (w : World) (v : Value) (hlt : Lt F w) (hd : Den0 F w v (.list es)) (hs : ∀ e ∈ es, (dcells e).length = 1) (hL : es.length ≤ 1000000000) :
    Calls Tryz.prog 61 #[v] w (RetD F w (.list es)) :=
  clone32_gen es F F w v hlt hd (Keep.same hlt) hs hL

theorem ei23 : EI Tryz.prog 69 97 3 48 := EI.mk (z := .agg #[.string ⟨#[]⟩, .string ⟨#[]⟩, .string ⟨#[]⟩]) (by kernel_rfl) (by kernel_rfl) rfl (by decide)
theorem clone46_gen (es : List D) (F G : Nat → Nat → Prop) (w : World) (v : Value) (hlt : Lt F w) (hd : Den0 F w v (.list es)) (hk : Keep F G w es) (hs : ∀ e ∈ es, (dcells e).length = 3) (hL : es.length ≤ 1000000000) :
    Calls Tryz.prog 58 #[v] w (RetD G w (.list es)) := by
  obtain ⟨a, c, vs, rfl, hc, hvl, hsl, h1, hx⟩ := list_sl hlt hd hs
  have hs0 := hsl.alloc (Nat.le_refl _) (.cells #[] 97)
  have ho0 : OwnR (w.alloc (.cells #[] 97)) w.heap.size 97 3 (.slice (some ⟨w.heap.size, 0, none⟩) 0 0) 0 [] := .inl ⟨rfl, rfl, _, rfl⟩
  cases a with
  | none =>
    have hvs : vs = [] := by
      apply Classical.byContradiction
      intro hne
      obtain ⟨b, off, e, _⟩ := hsl hne
      cases e
    have he : es = [] := List.eq_nil_of_length_eq_zero (by rw [hvs] at hvl; simp at hvl; omega)
    subst he
    have qT : ∀ (w : World) (a : Option Addr) (n c : Nat), (binOp .eql 69 (.slice a n c) (.slice none 0 0)).run Tryz.prog w = .ok (.bool a.isNone) w := fun w a n c => Lib.run_eql_slice_nil w _ _ a n c 0 0 (show Tryz.prog.underlying 69 = some (.slice 97) by kernel_rfl)
    go_enter Tryz.func58, Tryz.ntmps58
    go_wp2_with fail
    go_ret
    exact RetD.of (Below.refl _ _) (.list none 0 0 3 [] [] rfl (Nat.le_refl _) (by decide) hs rfl (.inl rfl) (by simp))
  | some p =>
    have qT : ∀ (w : World) (a : Option Addr) (n c : Nat), (binOp .eql 69 (.slice a n c) (.slice none 0 0)).run Tryz.prog w = .ok (.bool a.isNone) w := fun w a n c => Lib.run_eql_slice_nil w _ _ a n c 0 0 (show Tryz.prog.underlying 69 = some (.slice 97) by kernel_rfl)
    go_enter Tryz.func58, Tryz.ntmps58
    go_wp2_with (at_builtin; refine app_slR _ rfl (.tmp 5) (.tmp 6) 69 rfl ei23 w.heap.size _ 0 [] rfl ho0 w.heap.size (some p) es.length c vs rfl hs0 hvl h1 (by simp only [maxLen]; omega) (by omega) (by simp) ?_; intro v w1 ho1 hg1 hb1)
    go_ret
    have hb : Below w.heap.size w w1 := ((Below.refl _ w).alloc (Nat.le_refl _) _).trans hb1
    refine RetD.of hb (own_den ho1 (by simp) (by decide) hs (fun b o h1 h2 => .inr ⟨h1, h2⟩) (by simpa using h1) fun i v x hv hxx => ?_)
    exact hk _ _ _ (List.mem_of_getElem? hxx) hb (hx i v x (by simpa using hv) hxx)

theorem clone46_any (es : List D) (F : Nat → Nat → Prop) (w : World) (v : Value) (hlt : Lt F w) (hd : Den0 F w v (.list es)) (hs : ∀ e ∈ es, (dcells e).length = 3) (hL : es.length ≤ 1000000000) :
    Calls Tryz.prog 58 #[v] w (RetD F w (.list es)) :=
  clone46_gen es F F w v hlt hd (Keep.same hlt) hs hL

theorem ei24 : EI Tryz.prog 24 9 1 16 := EI.mk (z := .string ⟨#[]⟩) (by kernel_rfl) (by kernel_rfl) rfl (by decide)
theorem clone47_gen (es : List D) (F G : Nat → Nat → Prop) (w : World) (v : Value) (hlt : Lt F w) (hd : Den0 F w v (.list es)) (hk : Keep F G w es) (hs : ∀ e ∈ es, (dcells e).length = 1) (hL : es.length ≤ 1000000000) :
    Calls Tryz.prog 59 #[v] w (RetD G w (.list es)) := by
  obtain ⟨a, c, vs, rfl, hc, hvl, hsl, h1, hx⟩ := list_sl hlt hd hs
  have hs0 := hsl.alloc (Nat.le_refl _) (.cells #[] 9)
  have ho0 : OwnR (w.alloc (.cells #[] 9)) w.heap.size 9 1 (.slice (some ⟨w.heap.size, 0, none⟩) 0 0) 0 [] := .inl ⟨rfl, rfl, _, rfl⟩
  cases a with
  | none =>
    have hvs : vs = [] := by
      apply Classical.byContradiction
      intro hne
      obtain ⟨b, off, e, _⟩ := hsl hne
      cases e
    have he : es = [] := List.eq_nil_of_length_eq_zero (by rw [hvs] at hvl; simp at hvl; omega)
    subst he
    have qT : ∀ (w : World) (a : Option Addr) (n c : Nat), (binOp .eql 24 (.slice a n c) (.slice none 0 0)).run Tryz.prog w = .ok (.bool a.isNone) w := fun w a n c => Lib.run_eql_slice_nil w _ _ a n c 0 0 (show Tryz.prog.underlying 24 = some (.slice 9) by kernel_rfl)
    go_enter Tryz.func59, Tryz.ntmps59
    go_wp2_with fail
    go_ret
    exact RetD.of (Below.refl _ _) (.list none 0 0 1 [] [] rfl (Nat.le_refl _) (by decide) hs rfl (.inl rfl) (by simp))
  | some p =>
    have qT : ∀ (w : World) (a : Option Addr) (n c : Nat), (binOp .eql 24 (.slice a n c) (.slice none 0 0)).run Tryz.prog w = .ok (.bool a.isNone) w := fun w a n c => Lib.run_eql_slice_nil w _ _ a n c 0 0 (show Tryz.prog.underlying 24 = some (.slice 9) by kernel_rfl)
    go_enter Tryz.func59, Tryz.ntmps59
    go_wp2_with (at_builtin; refine app_slR _ rfl (.tmp 5) (.tmp 6) 24 rfl ei24 w.heap.size _ 0 [] rfl ho0 w.heap.size (some p) es.length c vs rfl hs0 hvl h1 (by simp only [maxLen]; omega) (by omega) (by simp) ?_; intro v w1 ho1 hg1 hb1)
    go_ret
    have hb : Below w.heap.size w w1 := ((Below.refl _ w).alloc (Nat.le_refl _) _).trans hb1
    refine RetD.of hb (own_den ho1 (by simp) (by decide) hs (fun b o h1 h2 => .inr ⟨h1, h2⟩) (by simpa using h1) fun i v x hv hxx => ?_)
    exact hk _ _ _ (List.mem_of_getElem? hxx) hb (hx i v x (by simpa using hv) hxx)
theorem clone47_any (es : List D) (F : Nat → Nat → Prop) (w : World) (v : Value) (hlt : Lt F w) (hd : Den0 F w v (.list es)) (hs : ∀ e ∈ es, (dcells e).length = 1) (hL : es.length ≤ 1000000000) :
    Calls Tryz.prog 59 #[v] w (RetD F w (.list es)) :=
  clone47_gen es F F w v hlt hd (Keep.same hlt) hs hL

end Go.Av
namespace Go.Av
open Go.Proofs Go.RowKit Go.Proofs.YtcogfddcdpgpkaaGreatDoor
theorem den_ge {F : Nat → Nat → Prop} {w W : World} {v : Value} {d : D} (h : Den0 F w v d) (hlt : Lt F w) (hb : Ge w W) : Den0 F W v d :=
  h.ext (S := fun _ => False) ⟨hb.os, hb.tape, hb.output, hb.size, fun b h _ => hb.block b h, fun b o h => h, fun b o h => by unfold World.cell?; rw [hb.block b (hlt b o h)], fun b es c hf hm => (hb.block b (hlt b 0 hf)).trans hm⟩
theorem lt_ge {F : Nat → Nat → Prop} {w W : World} (hlt : Lt F w) (hb : Ge w W) : Lt F W := fun b o h => Nat.lt_of_lt_of_le (hlt b o h) hb.size
def nx (F : Nat → Nat → Prop) (m : Nat) (w' : World) : Nat → Nat → Prop := fun b o => F b o ∨ (m ≤ b ∧ b < w'.heap.size)
theorem nx_keep {F : Nat → Nat → Prop} {w W W2 : World} {m m' A : Nat} {v : Value} {d : D} (h : Den0 (nx F m W) W v d) (hlt : Lt F w) (hW : w.heap.size ≤ W.heap.size) (hA : w.heap.size ≤ A) (hA2 : A < m) (hm : m' ≤ m) (hg : W.grownBy W2 (some A)) : Den0 (nx F m' W2) W2 v d := by
  have hne : ∀ b o, nx F m W b o → b < W.heap.size ∧ b ≠ A := by
    rintro b o (h | h)
    · have := hlt b o h
      exact ⟨by omega, by omega⟩
    · exact ⟨h.2, by omega⟩
  refine h.ext (S := fun b => b = A) ⟨hg.os, hg.tape, hg.output, hg.size, fun b h hn => hg.block b h (fun e => hn (by injection e)), fun b o h => ?_, fun b o h => ?_, fun b es c hf hm => (hg.block b (hne b 0 hf).1 (fun e => (hne b 0 hf).2 (by injection e))).trans hm⟩
  · exact h.imp id fun h => ⟨by omega, Nat.lt_of_lt_of_le h.2 hg.size⟩
  · unfold World.cell?
    rw [hg.block b (hne b o h).1 (fun e => (hne b o h).2 (by injection e))]
theorem nx_of_nw {F : Nat → Nat → Prop} {W W' : World} {m : Nat} {v : Value} {d : D} (h : Den0 (nw F W W') W' v d) (hm : m ≤ W.heap.size) : Den0 (nx F m W') W' v d :=
  h.grow fun b o h => h.imp id fun h => ⟨Nat.le_trans hm h.1, h.2⟩
theorem grown_refl (w : World) (r : Option Nat) : w.grownBy w r := ⟨rfl, rfl, rfl, Nat.le_refl _, fun _ _ _ => rfl⟩
theorem grown_ge {a w w' : World} {r : Option Nat} (h : a.grownBy w r) (k : Ge w w') : a.grownBy w' r :=
  ⟨k.os.trans h.os, k.tape.trans h.tape, k.output.trans h.output, Nat.le_trans h.size k.size, fun b hb hne => (k.block b (Nat.lt_of_lt_of_le hb h.size)).trans (h.block b hb hne)⟩
theorem ge_put {w w' : World} (h : Ge w w') {p : Addr} (hp : w.heap.size ≤ p.block) (v : Value) : Ge w (w'.setCell p v) := Below.setCell h hp v
theorem below_of_grown_row {w W W2 : World} {B : Nat} (h : Ge w W) (hg : W.grownBy W2 (some B)) (hB : w.heap.size ≤ B) : Ge w W2 :=
  ⟨hg.os.trans h.os, hg.tape.trans h.tape, hg.output.trans h.output, Nat.le_trans h.size hg.size, fun b hb => (hg.block b (Nat.lt_of_lt_of_le hb h.size) (fun e => by injection e with e; omega)).trans (h.block b hb)⟩
theorem clone46_ge {es : List D} {F G : Nat → Nat → Prop} {w W : World} {v : Value} (hlt : Lt F w) (hd : Den0 F w v (.list es)) (hk : ∀ W, Ge w W → Keep F G W es) (hs : ∀ e ∈ es, (dcells e).length = 3) (hL : es.length ≤ 1000000000) (hG : Ge w W) :
    Calls Tryz.prog 58 #[v] W fun e W' => ∃ x n c, e = .returned (.slice x n c) ∧ Ge W W' ∧ Den0 (nw G W W') W' (.slice x n c) (.list es) := by
  refine (clone46_gen es F G W v (lt_ge hlt hG) (den_ge hd hlt hG) (hk W hG) hs hL).mono ?_
  rintro e W' ⟨v', rfl, hb, hv⟩
  have h := (hv (fun _ => 0) fun _ _ => 0).list_
  cases h with
  | list a n c sz es vs h1 h2 h3 h4 h5 h6 h7 => exact ⟨a, n, c, rfl, hb, .list a n c sz es vs h1 h2 h3 h4 h5 h6 h7⟩
theorem clone47_ge {es : List D} {F G : Nat → Nat → Prop} {w W : World} {v : Value} (hlt : Lt F w) (hd : Den0 F w v (.list es)) (hk : ∀ W, Ge w W → Keep F G W es) (hs : ∀ e ∈ es, (dcells e).length = 1) (hL : es.length ≤ 1000000000) (hG : Ge w W) :
    Calls Tryz.prog 59 #[v] W fun e W' => ∃ x n c, e = .returned (.slice x n c) ∧ Ge W W' ∧ Den0 (nw G W W') W' (.slice x n c) (.list es) := by
  refine (clone47_gen es F G W v (lt_ge hlt hG) (den_ge hd hlt hG) (hk W hG) hs hL).mono ?_
  rintro e W' ⟨v', rfl, hb, hv⟩
  have h := (hv (fun _ => 0) fun _ _ => 0).list_
  cases h with
  | list a n c sz es vs h1 h2 h3 h4 h5 h6 h7 => exact ⟨a, n, c, rfl, hb, .list a n c sz es vs h1 h2 h3 h4 h5 h6 h7⟩
theorem copied_gen (p k : Int) (sp nm tx : ByteArray) (v4 v5 : Value) (la ls : List D) (F G : Nat → Nat → Prop) (w : World) (hlt : Lt F w) (hltG : Lt G w) (hk4 : ∀ W, Ge w W → Keep F G W la) (hk5 : ∀ W, Ge w W → Keep F G W ls) (hd4 : Den0 F w v4 (.list la)) (hd5 : Den0 F w v5 (.list ls))
    (hs4 : ∀ e ∈ la, (dcells e).length = 3) (hs5 : ∀ e ∈ ls, (dcells e).length = 1) (hL4 : la.length ≤ 1000000000) (hL5 : ls.length ≤ 1000000000) (o4 : v4.oneCell' = true) (o5 : v5.oneCell' = true) :
    Calls Tryz.prog 32 #[.agg #[.int .i64 p, .int .i64 k, .string sp, .string nm, v4, v5, .string tx]] w fun e w' => ∃ u4 u5, e = .returned (.agg #[.int .i64 p, .int .i64 k, .string sp, .string nm, u4, u5, .string tx]) ∧ Ge w w' ∧
      Den0 (nw G w w') w' u4 (.list la) ∧ Den0 (nw G w w') w' u5 (.list ls) ∧ u4.oneCell' = true ∧ u5.oneCell' = true := by
  have hW0 : ∀ o1 o2, Ge w ((w.alloc o1).alloc o2) := fun o1 o2 => ((Below.refl _ w).alloc (Nat.le_refl _) o1).alloc (by simp) o2
  have c46 := fun v W => clone46_ge (es := la) (F := F) (G := G) (w := w) (v := v) (W := W)
  have c47 := fun v W => clone47_ge (es := ls) (F := F) (G := G) (w := w) (v := v) (W := W)
  go_enter Tryz.func32, Tryz.ntmps32
  go_wp2_with fail
  have G0 := hW0 (.cells #[.int .i64 p, .int .i64 k, .string sp, .string nm, v4, v5, .string tx] 71) (.cells #[.int .i64 0, .int .i64 0, .string ⟨#[]⟩, .string ⟨#[]⟩, .slice none 0 0, .slice none 0 0, .string ⟨#[]⟩] 71)
  have B0 : Bk ((w.alloc (.cells #[.int .i64 p, .int .i64 k, .string sp, .string nm, v4, v5, .string tx] 71)).alloc (.cells #[.int .i64 0, .int .i64 0, .string ⟨#[]⟩, .string ⟨#[]⟩, .slice none 0 0, .slice none 0 0, .string ⟨#[]⟩] 71)) w.heap.size 71 #[.int .i64 p, .int .i64 k, .string sp, .string nm, v4, v5, .string tx] := (Bk.new _ _ _).alloc _
  have Z0 : Bk ((w.alloc (.cells #[.int .i64 p, .int .i64 k, .string sp, .string nm, v4, v5, .string tx] 71)).alloc (.cells #[.int .i64 0, .int .i64 0, .string ⟨#[]⟩, .string ⟨#[]⟩, .slice none 0 0, .slice none 0 0, .string ⟨#[]⟩] 71)) (w.heap.size + 1) 71 #[.int .i64 0, .int .i64 0, .string ⟨#[]⟩, .string ⟨#[]⟩, .slice none 0 0, .slice none 0 0, .string ⟨#[]⟩] := by
    have := Bk.new (w.alloc (.cells #[.int .i64 p, .int .i64 k, .string sp, .string nm, v4, v5, .string tx] 71)) 71 #[.int .i64 0, .int .i64 0, .string ⟨#[]⟩, .string ⟨#[]⟩, .slice none 0 0, .slice none 0 0, .string ⟨#[]⟩]
    simpa using this
  go_region_law (first
    | (go_simp; go_at_call 58; refine (c46 _ _ hlt hd4 hk4 hs4 hL4 (by first | exact G0 | exact G0.drew)).mono ?_; rintro e W4 ⟨x4, n4, e4, rfl, hb4, hv4⟩; have G4 := Ge.tr (by first | exact G0 | exact G0.drew) hb4; have B4 := Bk.below (by first | exact B0 | exact B0.drew) hb4 (by first | exact B0.lt | exact B0.drew.lt); have q4 := B4.cell 5; have q7 := B4.cell 4; have q5 := B4.free 4; have q6 := B4.free 5; have Z4 := Bk.below (by first | exact Z0 | exact Z0.drew) hb4 (by first | exact Z0.lt | exact Z0.drew.lt); simp only [List.getElem?_toArray, List.getElem?_cons_succ, List.getElem?_cons_zero] at q4 q7)
    | (go_simp; go_at_call 59; refine (c47 _ _ hlt hd5 hk5 hs5 hL5 (by first | exact G4 | exact G4.drew | exact ge_put G4 (by simp) _)).mono ?_; rintro e W5 ⟨x5, n5, e5, rfl, hb5, hv5⟩; have B5 := Bk.below (by first | exact B4 | exact B4.put _ _) hb5 (by first | (simp; exact B4.lt) | exact B4.lt); have s6 := B5.cell 4; have s7 := B5.cell 5; simp at s6 s7; have s4 := B5.free 4; have s5 := B5.free 5; have Z5 := Bk.below (by first | exact Z4 | exact Z4.other (by simp) _) hb5 (by first | exact Z4.lt | (simp; exact Z4.lt))))
  all_goals (
    have BF := (B5.put 4 (.slice x4 n4 e4)).put 5 (.slice x5 n5 e5)
    have ZF := (Z5.other (p := ⟨w.heap.size, 4, none⟩) (by simp) (.slice x4 n4 e4)).other (p := ⟨w.heap.size, 5, none⟩) (by simp) (.slice x5 n5 e5)
    have GA := grown_put (grown_put (grown_refl W5 (some w.heap.size)) (p := ⟨w.heap.size, 4, none⟩) rfl (.slice x4 n4 e4)) (p := ⟨w.heap.size, 5, none⟩) rfl (.slice x5 n5 e5)
    have hsz : w.heap.size < W4.heap.size := B4.lt
    have G5 : Ge w W5 := G4.tr hb5
    have z4 : w.heap.size + 2 ≤ W4.heap.size := Nat.le_trans (by first | (show _ ≤ ((w.heap.push _).push _).size; simp; done) | simp) hb4.size
    have v5F := nx_keep (A := w.heap.size) (nx_of_nw (m := w.heap.size + 2) hv5 (by first | exact z4 | (simp; exact z4))) hltG G5.size (Nat.le_refl _) (by omega) (Nat.le_refl _) GA
    have v4F := nx_keep (A := w.heap.size) (nx_of_nw (m := w.heap.size + 2) hv4 (by simp)) hltG G4.size (Nat.le_refl _) (by omega) (Nat.le_refl _) (grown_put (grown_put (grown_ge (by first | exact grown_refl W4 _ | exact grown_put (grown_refl W4 (some w.heap.size)) (p := ⟨w.heap.size, 4, none⟩) rfl (.slice x4 n4 e4)) hb5) (p := ⟨w.heap.size, 4, none⟩) rfl (.slice x4 n4 e4)) (p := ⟨w.heap.size, 5, none⟩) rfl (.slice x5 n5 e5))
    have GF : Ge w ((W5.setCell ⟨w.heap.size, 4, none⟩ (.slice x4 n4 e4)).setCell ⟨w.heap.size, 5, none⟩ (.slice x5 n5 e5)) := ge_put (ge_put G5 (by simp) _) (by simp) _
    clear GA B5 Z5 z4 s4 s5 s6 s7 q4 q5 q6 q7 B4 Z4 hb5 hv5 hv4 hb4 G5 G4
    generalize ((W5.setCell ⟨w.heap.size, 4, none⟩ (.slice x4 n4 e4)).setCell ⟨w.heap.size, 5, none⟩ (.slice x5 n5 e5)) = W6 at *
    have b0 := BF.cell 0; have b1 := BF.cell 1; have b2 := BF.cell 2; have b3 := BF.cell 3; have b4 := BF.cell 4; have b5 := BF.cell 5; have b6 := BF.cell 6
    have z0 := ZF.cell 0; have z1 := ZF.cell 1; have z2 := ZF.cell 2; have z3 := ZF.cell 3; have z4 := ZF.cell 4; have z5 := ZF.cell 5; have z6 := ZF.cell 6
    have f0 := ZF.free 0; have f1 := ZF.free 1; have f2 := ZF.free 2; have f3 := ZF.free 3; have f4 := ZF.free 4; have f5 := ZF.free 5; have f6 := ZF.free 6
    simp at b0 b1 b2 b3 b4 b5 b6 z0 z1 z2 z3 z4 z5 z6)
  all_goals go_wp2_with fail
  all_goals (
    have BZ := ((((((ZF.put 0 (.int .i64 p)).put 1 (.int .i64 k)).put 2 (.string sp)).put 3 (.string nm)).put 4 (.slice x4 n4 e4)).put 5 (.slice x5 n5 e5)).put 6 (.string tx)
    have GZ := grown_put (grown_put (grown_put (grown_put (grown_put (grown_put (grown_put (grown_refl W6 (some (w.heap.size + 1))) (p := ⟨w.heap.size + 1, 0, none⟩) rfl (.int .i64 p)) (p := ⟨w.heap.size + 1, 1, none⟩) rfl (.int .i64 k)) (p := ⟨w.heap.size + 1, 2, none⟩) rfl (.string sp)) (p := ⟨w.heap.size + 1, 3, none⟩) rfl (.string nm)) (p := ⟨w.heap.size + 1, 4, none⟩) rfl (.slice x4 n4 e4)) (p := ⟨w.heap.size + 1, 5, none⟩) rfl (.slice x5 n5 e5)) (p := ⟨w.heap.size + 1, 6, none⟩) rfl (.string tx)
    have v5Z := nx_keep (m' := w.heap.size) v5F hltG GF.size (by omega) (by omega) (by omega) GZ
    have v4Z := nx_keep (m' := w.heap.size) v4F hltG GF.size (by omega) (by omega) (by omega) GZ
    have GY : Ge w (((((((W6.setCell ⟨w.heap.size + 1, 0, none⟩ (.int .i64 p)).setCell ⟨w.heap.size + 1, 1, none⟩ (.int .i64 k)).setCell ⟨w.heap.size + 1, 2, none⟩ (.string sp)).setCell ⟨w.heap.size + 1, 3, none⟩ (.string nm)).setCell ⟨w.heap.size + 1, 4, none⟩ (.slice x4 n4 e4)).setCell ⟨w.heap.size + 1, 5, none⟩ (.slice x5 n5 e5)).setCell ⟨w.heap.size + 1, 6, none⟩ (.string tx)) := below_of_grown_row GF GZ (by omega)
    clear GZ GF b0 b1 b2 b3 b4 b5 b6 z0 z1 z2 z3 z4 z5 z6 f0 f1 f2 f3 f4 f5 f6 BF ZF
    generalize (((((((W6.setCell ⟨w.heap.size + 1, 0, none⟩ (.int .i64 p)).setCell ⟨w.heap.size + 1, 1, none⟩ (.int .i64 k)).setCell ⟨w.heap.size + 1, 2, none⟩ (.string sp)).setCell ⟨w.heap.size + 1, 3, none⟩ (.string nm)).setCell ⟨w.heap.size + 1, 4, none⟩ (.slice x4 n4 e4)).setCell ⟨w.heap.size + 1, 5, none⟩ (.slice x5 n5 e5)).setCell ⟨w.heap.size + 1, 6, none⟩ (.string tx)) = W7 at *
    have z0 := BZ.cell 0; have z1 := BZ.cell 1; have z2 := BZ.cell 2; have z3 := BZ.cell 3; have z4 := BZ.cell 4; have z5 := BZ.cell 5; have z6 := BZ.cell 6
    simp at z0 z1 z2 z3 z4 z5 z6
    refine ⟨rfl, .agg #[.int .i64 p, .int .i64 k, .string sp, .string nm, .slice x4 n4 e4, .slice x5 n5 e5, .string tx], ?_, _, _, rfl, GY, v4Z, v5Z, rfl, rfl⟩
    simp [results, go_sem, z0, z1, z2, z3, z4, z5, z6, Tryz.f32])
theorem copied_any (p k : Int) (sp nm tx : ByteArray) (v4 v5 : Value) (la ls : List D) (F : Nat → Nat → Prop) (w : World) (hlt : Lt F w) (hd4 : Den0 F w v4 (.list la)) (hd5 : Den0 F w v5 (.list ls))
    (hs4 : ∀ e ∈ la, (dcells e).length = 3) (hs5 : ∀ e ∈ ls, (dcells e).length = 1) (hL4 : la.length ≤ 1000000000) (hL5 : ls.length ≤ 1000000000) (o4 : v4.oneCell' = true) (o5 : v5.oneCell' = true) :
    Calls Tryz.prog 32 #[.agg #[.int .i64 p, .int .i64 k, .string sp, .string nm, v4, v5, .string tx]] w fun e w' => ∃ u4 u5, e = .returned (.agg #[.int .i64 p, .int .i64 k, .string sp, .string nm, u4, u5, .string tx]) ∧ Ge w w' ∧
      Den0 (nw F w w') w' u4 (.list la) ∧ Den0 (nw F w w') w' u5 (.list ls) ∧ u4.oneCell' = true ∧ u5.oneCell' = true :=
  copied_gen p k sp nm tx v4 v5 la ls F F w hlt hlt (fun W hG => Keep.same (lt_ge hlt hG)) (fun W hG => Keep.same (lt_ge hlt hG)) hd4 hd5 hs4 hs5 hL4 hL5 o4 o5
end Go.Av
namespace Go.Av
open Go.Proofs Go.RowKit Go.Proofs.YtcogfddcdpgpkaaGreatDoor
theorem ei22 : EI Tryz.prog 22 71 7 112 := EI.mk (z := .agg #[.int .i64 0, .int .i64 0, .string ⟨#[]⟩, .string ⟨#[]⟩, .slice none 0 0, .slice none 0 0, .string ⟨#[]⟩]) (by kernel_rfl) (by kernel_rfl) rfl (by decide)
def isNode : D → Bool
  | .agg [.int .i64 _, .int .i64 _, .str _, .str _, .list as_, .list ss, .str _] => as_.all (fun e => (dcells e).length == 3) && ss.all (fun e => (dcells e).length == 1) && decide (as_.length ≤ 1000000) && decide (ss.length ≤ 1000000)
  | _ => false
theorem isNode_inv {d : D} (h : isNode d = true) : ∃ p k sp nm la ls tx, d = .agg [.int .i64 p, .int .i64 k, .str sp, .str nm, .list la, .list ls, .str tx] ∧ (∀ e ∈ la, (dcells e).length = 3) ∧ (∀ e ∈ ls, (dcells e).length = 1) ∧ la.length ≤ 1000000 ∧ ls.length ≤ 1000000 := by
  unfold isNode at h
  split at h
  · simp only [Bool.and_eq_true, List.all_eq_true, beq_iff_eq, decide_eq_true_eq] at h
    exact ⟨_, _, _, _, _, _, _, rfl, h.1.1.1, h.1.1.2, h.1.2, h.2⟩
  · cases h
theorem isNode_len {es : List D} (h : ∀ e ∈ es, isNode e = true) : ∀ e ∈ es, (dcells e).length = 7 := fun e he => by
  obtain ⟨p, k, sp, nm, la, ls, tx, rfl, _⟩ := isNode_inv (h e he)
  rfl
def RowN (F : Nat → Nat → Prop) (es : List D) (g : Nat) (wr : World) : Prop :=
  ∃ cur : Array Value, wr.heap[g]? = some (.cells cur 71 (0, 0)) ∧ ∀ (m : Nat) (x : D), (flat es)[m]? = some x → ∃ v : Value, cur[m]? = some v ∧ v.oneCell' = true ∧ Den0 (nx F (g + 1) wr) wr v x
theorem RowN.ge {F : Nat → Nat → Prop} {es : List D} {g : Nat} {w wr W : World} (h : RowN F es g wr) (hlt : Lt F w) (hw : w.heap.size ≤ wr.heap.size) (hb : Ge wr W) : RowN F es g W := by
  obtain ⟨cur, h1, h2⟩ := h
  refine ⟨cur, (hb.block g (Array.getElem?_eq_some_iff.1 h1).1).trans h1, fun m x hx => ?_⟩
  obtain ⟨v, h3, h4, h5⟩ := h2 m x hx
  refine ⟨v, h3, h4, h5.ext (S := fun _ => False) ⟨hb.os, hb.tape, hb.output, hb.size, fun b h _ => hb.block b h, fun b o h => h.imp id fun h => ⟨h.1, Nat.lt_of_lt_of_le h.2 hb.size⟩, fun b o h => ?_, fun b es c hf hm => ?_⟩⟩
  · have hb1 : b < wr.heap.size := h.elim (fun h => Nat.lt_of_lt_of_le (hlt b o h) hw) fun h => h.2
    unfold World.cell?
    rw [hb.block b hb1]
  · have hb1 : b < wr.heap.size := hf.elim (fun h => Nat.lt_of_lt_of_le (hlt b 0 h) hw) fun h => h.2
    exact (hb.block b hb1).trans hm
theorem RowN.put {F : Nat → Nat → Prop} {es : List D} {g m : Nat} {w wr : World} {v : Value} {x : D} (h : RowN F es g wr) (hlt : Lt F w) (hw : w.heap.size ≤ wr.heap.size) (hg : w.heap.size ≤ g) (hx : (flat es)[m]? = some x) (h1 : v.oneCell' = true) (hv : Den0 (nx F (g + 1) wr) wr v x) : RowN F es g (wr.setCell ⟨g, m, none⟩ v) := by
  obtain ⟨cur, h2, h3⟩ := h
  have hG : wr.grownBy (wr.setCell ⟨g, m, none⟩ v) (some g) := grown_put (grown_refl wr _) rfl v
  have keep : ∀ {u y}, Den0 (nx F (g + 1) wr) wr u y → Den0 (nx F (g + 1) (wr.setCell ⟨g, m, none⟩ v)) (wr.setCell ⟨g, m, none⟩ v) u y := fun hu => nx_keep hu hlt hw hg (Nat.lt_succ_self g) (Nat.le_refl _) hG
  refine ⟨cur.setIfInBounds m v, heap_setCell_same wr g m cur 71 v h2, fun m' x' hx' => ?_⟩
  obtain ⟨u, h4, h5, h6⟩ := h3 m' x' hx'
  by_cases hm : m' = m
  · subst hm
    rw [hx] at hx'
    obtain rfl := Option.some.inj hx'
    have hlt' := (Array.getElem?_eq_some_iff.1 h4).1
    exact ⟨v, by simp [hlt'], h1, keep hv⟩
  · exact ⟨u, by rw [Array.getElem?_setIfInBounds_ne (fun e => hm e.symm)]; exact h4, h5, keep h6⟩
theorem RowN.cell {F : Nat → Nat → Prop} {es : List D} {g : Nat} {wr : World} (h : RowN F es g wr) {m : Nat} {x : D} (hx : (flat es)[m]? = some x) : ∃ v, wr.cell? ⟨g, m, none⟩ = some v ∧ v.oneCell' = true ∧ Den0 (nx F (g + 1) wr) wr v x ∧ wr.frozen? ⟨g, m, none⟩ = false := by
  obtain ⟨cur, h1, h2⟩ := h
  obtain ⟨v, h3, h4, h5⟩ := h2 m x hx
  exact ⟨v, by rw [cell_of_row wr g m cur 71 (0, 0) h1]; exact h3, h4, h5, frozen_of_row wr g m cur 71 h1⟩
end Go.Av
namespace Go.Av
open Go.Proofs Go.RowKit Go.Proofs.YtcogfddcdpgpkaaGreatDoor Go.Maps
def zf (F : Nat → Nat → Prop) (Z : Nat → Prop) : Nat → Nat → Prop := fun b o => F b o ∨ Z b
def apart (v u : Value) : Prop := v.ownBlock = none ∨ v.ownBlock ≠ u.ownBlock
theorem apart.symm {v u : Value} (h : apart v u) : apart u v := by
  unfold apart at *
  cases hu : u.ownBlock with
  | none => exact .inl rfl
  | some b =>
    refine .inr fun e => ?_
    rcases h with h | h
    · rw [h] at e; cases e
    · exact h (by rw [hu]; exact e.symm)
structure NS (F : Nat → Nat → Prop) (w : World) (bm bt : Nat) (Z : Nat → Prop) (vN vE vP : Value) (ns : List D) (zE zP : List Int) (wr : World) : Prop where
  ge : Ge w wr
  hm : w.heap.size ≤ bm
  ht : bt = bm + 1
  htw : bt < wr.heap.size
  z : ∀ b, Z b → bt < b ∧ b < wr.heap.size ∧ vN.ownBlock ≠ some b ∧ vE.ownBlock ≠ some b ∧ vP.ownBlock ≠ some b
  oN : ∃ xs, wr.ownsRow (bt + 1) 71 7 vN ns.length xs ∧ (∀ u ∈ xs, u.oneCell' = true) ∧ ∀ (m : Nat) (v : Value) (x : D), xs[m]? = some v → (flat ns)[m]? = some x → Den0 (zf F Z) wr v x
  oE : wr.ownsInts (bt + 1) 3 .i64 vE zE
  oP : wr.ownsInts (bt + 1) 3 .i64 vP zP
  aNE : apart vN vE
  aNP : apart vN vP
  aEP : apart vE vP
section
variable {F : Nat → Nat → Prop} {w : World} {bm bt : Nat} {Z : Nat → Prop} {vN vE vP : Value} {ns : List D} {zE zP : List Int} {wr W : World} {r : Option Nat}
theorem zden_keep (hlt : Lt F w) (hge : Ge w wr) (hz : ∀ b, Z b → b < wr.heap.size ∧ some b ≠ r) (hr : ∀ b, r = some b → w.heap.size ≤ b) (hg : wr.grownBy W r) {v : Value} {x : D} (h : Den0 (zf F Z) wr v x) : Den0 (zf F Z) W v x := by
  have hne : ∀ b o, zf F Z b o → b < wr.heap.size ∧ some b ≠ r := by
    rintro b o (h | h)
    · have h1 := hlt b o h
      have h2 := hge.size
      refine ⟨by omega, fun e => ?_⟩
      have := hr b e.symm
      omega
    · exact hz b h
  refine h.ext (S := fun b => some b = r) ⟨hg.os, hg.tape, hg.output, hg.size, fun b h hn => hg.block b h hn, fun b o h => h, fun b o h => ?_, fun b es c hf hm => (hg.block b (hne b 0 hf).1 (hne b 0 hf).2).trans hm⟩
  unfold World.cell?
  rw [hg.block b (hne b o h).1 (hne b o h).2]
def Off (bm bt : Nat) (Z : Nat → Prop) (vN vE vP : Value) (b : Nat) : Prop := b = bt ∨ b = bm ∨ (bt < b ∧ ¬ Z b ∧ vN.ownBlock ≠ some b ∧ vE.ownBlock ≠ some b ∧ vP.ownBlock ≠ some b)
theorem own_off {base size n : Nat} {e : TypeId} {v : Value} {xs : List Value} (ho : wr.ownsRow (bt + 1) e size v n xs) (hr : ∀ b, r = some b → b ≤ bt ∨ v.ownBlock ≠ some b) : v.ownBlock = none ∨ v.ownBlock ≠ r := by
  cases hv : v.ownBlock with
  | none => exact .inl rfl
  | some g =>
    refine .inr fun e => ?_
    rcases hr g e.symm with h | h
    · have := (ho.lt g hv).1; omega
    · exact h hv
theorem ge_grown (h : Ge w wr) (hg : wr.grownBy W r) (hr : ∀ b, r = some b → w.heap.size ≤ b) : Ge w W :=
  ⟨hg.os.trans h.os, hg.tape.trans h.tape, hg.output.trans h.output, Nat.le_trans h.size hg.size, fun b hb => (hg.block b (Nat.lt_of_lt_of_le hb h.size) (fun e => by have := hr b e.symm; omega)).trans (h.block b hb)⟩
theorem NS.keep (hlt : Lt F w) (h : NS F w bm bt Z vN vE vP ns zE zP wr) (hg : wr.grownBy W r) (hr : ∀ b, r = some b → Off bm bt Z vN vE vP b) : NS F w bm bt Z vN vE vP ns zE zP W := by
  have hm := h.hm
  have ht := h.ht
  have hrw : ∀ b, r = some b → w.heap.size ≤ b := fun b hb => by rcases hr b hb with h1 | h1 | h1 <;> omega
  have hz : ∀ b, Z b → b < wr.heap.size ∧ some b ≠ r := fun b hb => ⟨(h.z b hb).2.1, fun e => by
    have := (h.z b hb).1
    rcases hr b e.symm with h1 | h1 | h1
    · omega
    · omega
    · exact h1.2.1 hb⟩
  have own : ∀ {e : TypeId} {size n : Nat} {v : Value} {xs : List Value}, (v = vN ∨ v = vE ∨ v = vP) → wr.ownsRow (bt + 1) e size v n xs → W.ownsRow (bt + 1) e size v n xs := fun hv ho => ho.kept hg (own_off (base := 0) ho fun b hb => by
    rcases hr b hb with h1 | h1 | h1
    · exact .inl (by omega)
    · exact .inl (by omega)
    · rcases hv with rfl | rfl | rfl
      · exact .inr h1.2.2.1
      · exact .inr h1.2.2.2.1
      · exact .inr h1.2.2.2.2)
  refine ⟨ge_grown h.ge hg hrw, hm, ht, Nat.lt_of_lt_of_le h.htw hg.size, fun b hb => ⟨(h.z b hb).1, Nat.lt_of_lt_of_le (h.z b hb).2.1 hg.size, (h.z b hb).2.2⟩, ?_, ⟨own (.inr (.inl rfl)) h.oE.1, h.oE.2⟩, ⟨own (.inr (.inr rfl)) h.oP.1, h.oP.2⟩, h.aNE, h.aNP, h.aEP⟩
  obtain ⟨xs, h1, h2, h3⟩ := h.oN
  exact ⟨xs, own (.inl rfl) h1, h2, fun m v x hv hx => zden_keep hlt h.ge hz hrw hg (h3 m v x hv hx)⟩
theorem NS.fix {Z' : Nat → Prop} (h : NS F w bm bt Z vN vE vP ns zE zP wr) (hZ : ∀ b, Z b → Z' b) (hz : ∀ b, Z' b → bt < b ∧ b < wr.heap.size ∧ vN.ownBlock ≠ some b ∧ vE.ownBlock ≠ some b ∧ vP.ownBlock ≠ some b) : NS F w bm bt Z' vN vE vP ns zE zP wr := by
  obtain ⟨xs, h1, h2, h3⟩ := h.oN
  exact ⟨h.ge, h.hm, h.ht, h.htw, hz, ⟨xs, h1, h2, fun m v x hv hx => (h3 m v x hv hx).grow fun b o h => h.imp id (hZ b)⟩, h.oE, h.oP, h.aNE, h.aNP, h.aEP⟩
theorem apart_new {v v' u : Value} (h : apart v u) (hu : ∀ g, u.ownBlock = some g → g < wr.heap.size) (loc : v'.ownBlock = v.ownBlock ∨ v'.ownBlock = some wr.heap.size) : apart v' u := by
  unfold apart at *
  rcases loc with l | l
  · rw [l]; exact h
  · refine .inr fun e => ?_
    rw [l] at e
    have := hu _ e.symm
    omega
theorem own_lt {base size n : Nat} {e : TypeId} {v : Value} {xs : List Value} (ho : wr.ownsRow base e size v n xs) : ∀ g, v.ownBlock = some g → g < wr.heap.size := fun g hg => (ho.lt g hg).2
theorem NS.appN (hlt : Lt F w) (h : NS F w bm bt Z vN vE vP ns zE zP wr) {v' : Value} {d : D} {xs' : List Value} (hg : wr.grownBy W vN.ownBlock) (loc : v'.ownBlock = vN.ownBlock ∨ v'.ownBlock = some wr.heap.size)
    (ho : W.ownsRow (bt + 1) 71 7 v' (ns ++ [d]).length xs') (h1 : ∀ u ∈ xs', u.oneCell' = true) (hd : ∀ (m : Nat) (v : Value) (x : D), xs'[m]? = some v → (flat (ns ++ [d]))[m]? = some x → Den0 (zf F Z) W v x) : NS F w bm bt Z v' vE vP (ns ++ [d]) zE zP W := by
  obtain ⟨xs, g1, g2, g3⟩ := h.oN
  have hb : ∀ b, vN.ownBlock = some b → w.heap.size ≤ b := fun b hb => by have := (g1.lt b hb).1; have := h.hm; have := h.ht; omega
  refine ⟨ge_grown h.ge hg hb, h.hm, h.ht, Nat.lt_of_lt_of_le h.htw hg.size, fun b hb => ?_, ⟨xs', ho, h1, hd⟩, h.oE.kept hg h.aNE.symm, h.oP.kept hg h.aNP.symm, apart_new h.aNE (own_lt h.oE.1) loc, apart_new h.aNP (own_lt h.oP.1) loc, h.aEP⟩
  have hz := h.z b hb
  refine ⟨hz.1, Nat.lt_of_lt_of_le hz.2.1 hg.size, ?_, hz.2.2.2⟩
  rcases loc with l | l
  · rw [l]; exact hz.2.2.1
  · rw [l]; intro e; injection e with e; omega
theorem zne (h : NS F w bm bt Z vN vE vP ns zE zP wr) {v : Value} (hv : ∀ b, Z b → v.ownBlock ≠ some b) : ∀ b, Z b → b < wr.heap.size ∧ some b ≠ v.ownBlock := fun b hb => ⟨(h.z b hb).2.1, fun e => hv b hb e.symm⟩
theorem NS.appE (hlt : Lt F w) (h : NS F w bm bt Z vN vE vP ns zE zP wr) {v' : Value} {zs : List Int} (hg : wr.grownBy W vE.ownBlock) (loc : v'.ownBlock = vE.ownBlock ∨ v'.ownBlock = some wr.heap.size)
    (ho : W.ownsInts (bt + 1) 3 .i64 v' zs) : NS F w bm bt Z vN v' vP ns zs zP W := by
  obtain ⟨xs, g1, g2, g3⟩ := h.oN
  have hb : ∀ b, vE.ownBlock = some b → w.heap.size ≤ b := fun b hb => by have := (h.oE.1.lt b hb).1; have := h.hm; have := h.ht; omega
  refine ⟨ge_grown h.ge hg hb, h.hm, h.ht, Nat.lt_of_lt_of_le h.htw hg.size, fun b hb => ?_, ⟨xs, g1.kept hg h.aNE, g2, fun m v x hv hx => zden_keep hlt h.ge (zne h fun b hb => (h.z b hb).2.2.2.1) hb hg (g3 m v x hv hx)⟩, ho, h.oP.kept hg h.aEP.symm, (apart_new h.aNE.symm (own_lt g1) loc).symm, h.aNP, apart_new h.aEP (own_lt h.oP.1) loc⟩
  have hz := h.z b hb
  refine ⟨hz.1, Nat.lt_of_lt_of_le hz.2.1 hg.size, hz.2.2.1, ?_, hz.2.2.2.2⟩
  rcases loc with l | l
  · rw [l]; exact hz.2.2.2.1
  · rw [l]; intro e; injection e with e; omega
theorem NS.appP (hlt : Lt F w) (h : NS F w bm bt Z vN vE vP ns zE zP wr) {v' : Value} {zs : List Int} (hg : wr.grownBy W vP.ownBlock) (loc : v'.ownBlock = vP.ownBlock ∨ v'.ownBlock = some wr.heap.size)
    (ho : W.ownsInts (bt + 1) 3 .i64 v' zs) : NS F w bm bt Z vN vE v' ns zE zs W := by
  obtain ⟨xs, g1, g2, g3⟩ := h.oN
  have hb : ∀ b, vP.ownBlock = some b → w.heap.size ≤ b := fun b hb => by have := (h.oP.1.lt b hb).1; have := h.hm; have := h.ht; omega
  refine ⟨ge_grown h.ge hg hb, h.hm, h.ht, Nat.lt_of_lt_of_le h.htw hg.size, fun b hb => ?_, ⟨xs, g1.kept hg h.aNP, g2, fun m v x hv hx => zden_keep hlt h.ge (zne h fun b hb => (h.z b hb).2.2.2.2) hb hg (g3 m v x hv hx)⟩, h.oE.kept hg h.aEP, ho, h.aNE, (apart_new h.aNP.symm (own_lt g1) loc).symm, (apart_new h.aEP.symm (own_lt h.oE.1) loc).symm⟩
  have hz := h.z b hb
  refine ⟨hz.1, Nat.lt_of_lt_of_le hz.2.1 hg.size, hz.2.2.1, hz.2.2.2.1, ?_⟩
  rcases loc with l | l
  · rw [l]; exact hz.2.2.2.2
  · rw [l]; intro e; injection e with e; omega
def NoB (Z : Nat → Prop) (vN vE vP : Value) (b : Nat) : Prop := Z b ∨ vN.ownBlock = some b ∨ vE.ownBlock = some b ∨ vP.ownBlock = some b
structure NG (Z : Nat → Prop) (vN vE vP : Value) (bm bt n : Nat) (D : DataW Unit) (wr : World) : Prop where
  gr : wr.ownsGroups Tryz.prog 3 (bt + 1) 3 .i64 bm n D
  sh : wr.Shuns bm (NoB Z vN vE vP)
variable {n : Nat} {D : DataW Unit}
theorem NG.lt (h : NG Z vN vE vP bm bt n D wr) : bm < wr.heap.size := by
  obtain ⟨es, clock, hb, _⟩ := h.gr
  exact (Array.getElem?_eq_some_iff.1 hb).1
theorem NG.keep (h : NG Z vN vE vP bm bt n D wr) (ht : bt = bm + 1) (hg : wr.grownBy W r) (hr : r = none ∨ r = some bt ∨ ∃ b, r = some b ∧ bm < b ∧ NoB Z vN vE vP b) : NG Z vN vE vP bm bt n D W := by
  have hb' : some bm ≠ r := by
    rintro rfl
    rcases hr with h | h | ⟨b, h, h2, _⟩
    · cases h
    · injection h with h; omega
    · injection h with h; omega
  refine ⟨h.gr.kept hg hb' ?_, h.sh.kept hg h.lt hb'⟩
  rcases hr with rfl | rfl | ⟨b, rfl, _, hb⟩
  · intro es clock _ x _
    cases x.val.ownBlock
    · exact .inl rfl
    · exact .inr (by simp)
  · exact h.gr.rowsAbove fun j hj => by injection hj with hj; omega
  · exact h.sh.rowsOff fun j hj => by injection hj with hj; exact hj ▸ hb
theorem NG.reno {Z' : Nat → Prop} {vN' vE' vP' : Value} (h : NG Z vN vE vP bm bt n D wr) (hn : ∀ g, NoB Z' vN' vE' vP' g → NoB Z vN vE vP g ∨ wr.heap.size ≤ g) : NG Z' vN' vE' vP' bm bt n D wr := ⟨h.gr, h.sh.reno h.gr hn⟩
end
end Go.Av
namespace Go.Av
open Go.Proofs Go.RowKit Go.Proofs.YtcogfddcdpgpkaaGreatDoor Go.Maps
def ndP : D → Int | .agg (.int _ p :: _) => p | _ => 0
def ndK : D → Int | .agg (_ :: .int _ k :: _) => k | _ => 0
def rowF (es : List D) (key : Int) : Nat → List Int
  | 0 => []
  | k + 1 => if ndK (es.getD k .bad) = 1 ∧ ndP (es.getD k .bad) = key then rowF es key k ++ [(k : Int)] else rowF es key k
def elF (es : List D) : Nat → List Int
  | 0 => []
  | k + 1 => if ndK (es.getD k .bad) = 1 then elF es k ++ [(k : Int)] else elF es k
def plF (es : List D) : Nat → List Int
  | 0 => []
  | k + 1 => plF es k ++ [((rowF es (ndP (es.getD k .bad)) k).length : Int)]
def i64s (zs : List Int) : D := .list (zs.map (D.int .i64))
def treeD (es : List D) : D := .fix (.agg [.list es, i64s (elF es es.length), .imap (es.map ndP) (es.map fun e => i64s (rowF es (ndP e) es.length)), i64s (plF es es.length)]) 0
section
variable {P : Program} {ops : Array Oper} {o : Oper} {a : Act} {Q : Exit → Act → World → Prop}
theorem own_form {w : World} {base e size n : Nat} {v : Value} {xs : List Value} (h : w.ownsRow base e size v n xs) : ∃ A c, v = .slice A n c ∧ n ≤ c := by
  rcases h.2 with ⟨rfl, rfl⟩ | ⟨g, cap, cur, rfl, _, _, hc, _⟩
  · exact ⟨_, _, rfl, Nat.le_refl _⟩
  · exact ⟨_, _, rfl, hc⟩
theorem step_own {K : Act → World → Prop} {F : Prop} (w0 : World) (hgd : o.guard = none) (s x : Operand) (t : TypeId) (ho : o.op = .call { callee := .builtin .append, args := #[s, x], argTypes := #[t, t] })
    {e : TypeId} {size bytes : Nat} (E : EI P t e size bytes) (base : Nat) (v : Value) (n : Nat) (xs : List Value) (hs : a.eval s = v) (hown : w0.ownsRow base e size v n xs)
    (ad : Addr) (m c : Nat) (news : List Value) (hx : a.eval x = .slice (some ad) m c) (hl : news.length = m * size) (hnews : ∀ j u, news[j]? = some u → w0.cell? (ad.add j) = some u) (h1 : ∀ u ∈ news, u.oneCell' = true)
    (h63 : n + m ≤ maxLen) (hbytes : (n + m) * bytes ≤ 140737488355328) (hbase : base ≤ w0.heap.size)
    (h : ∀ A' c' w', n + m ≤ c' → w'.ownsRow base e size (.slice A' (n + m) c') (n + m) (xs ++ news) → w0.grownBy w' v.ownBlock → ((Value.slice A' (n + m) c').ownBlock = v.ownBlock ∨ (Value.slice A' (n + m) c').ownBlock = some w0.heap.size) → K (a.put o.dst (.slice A' (n + m) c')) w') :
    if Region.wanted o (yielded ops a.tmps) = true then Oper.wp P o a w0 K Q else F := by
  obtain ⟨i, z, ht, hi, hz, hsz, hby, hzs, hpos⟩ := E
  obtain ⟨v', w', hr, h2, h3, h4, h5⟩ := run_append_own_at (P := P) w0 base t o.type e i z size bytes ht hi hz hsz hby hzs hpos v n xs hown ad m c news hl hnews h1 h63 hbytes hbase
  obtain ⟨A', c', rfl, hc⟩ := own_form h2
  have hw : Region.wanted o (yielded ops a.tmps) = true := by
    unfold Region.wanted
    rw [hgd]
  rw [if_pos hw]
  unfold Oper.wp execOp
  simp only [ho, resolve, invoke, builtin, Sem.run_bind, Sem.run_pure, Result.andThen_ok, List.map_toArray, List.map_cons, List.map_nil, hs, hx, hr]
  exact h A' c' w' hc h2 h3 h5
end
theorem kd3 : Keyed Tryz.prog 3 := int_keyed (show Tryz.prog.underlying 3 = some (.int .i64) by kernel_rfl)
theorem node_all {F : Nat → Nat → Prop} {w : World} {a : Option Addr} {vs : List Value} {es : List D} (hes : ∀ e ∈ es, isNode e = true) (hvl : vs.length = es.length * 7) (hsl : Sl w w.heap.size a vs)
    (hx : ∀ (i : Nat) (v : Value) (x : D), vs[i]? = some v → (flat es)[i]? = some x → Den0 F w v x) {i : Nat} (hi : i < es.length) :
    ∃ b off p k sp nm la ls tx x4 c4 x5 c5, a = some ⟨b, off, none⟩ ∧ b < w.heap.size ∧ es.getD i .bad = .agg [.int .i64 p, .int .i64 k, .str sp, .str nm, .list la, .list ls, .str tx] ∧
      (w.cell? ⟨b, off + i * 7, none⟩ = some (.int .i64 p) ∧ w.cell? ⟨b, off + i * 7 + 1, none⟩ = some (.int .i64 k) ∧ w.cell? ⟨b, off + i * 7 + 2, none⟩ = some (.string ⟨sp.toArray⟩) ∧ w.cell? ⟨b, off + i * 7 + 3, none⟩ = some (.string ⟨nm.toArray⟩) ∧
      w.cell? ⟨b, off + i * 7 + 4, none⟩ = some (.slice x4 la.length c4) ∧ w.cell? ⟨b, off + i * 7 + 5, none⟩ = some (.slice x5 ls.length c5) ∧ w.cell? ⟨b, off + i * 7 + 6, none⟩ = some (.string ⟨tx.toArray⟩)) ∧
      Den0 F w (.slice x4 la.length c4) (.list la) ∧ Den0 F w (.slice x5 ls.length c5) (.list ls) ∧ (∀ e ∈ la, (dcells e).length = 3) ∧ (∀ e ∈ ls, (dcells e).length = 1) ∧ la.length ≤ 1000000 ∧ ls.length ≤ 1000000 := by
  have hei : es[i]? = some es[i] := List.getElem?_eq_getElem hi
  have hgd : es.getD i .bad = es[i] := by simp [List.getD, hei]
  obtain ⟨p, k, sp, nm, la, ls, tx, he, h4, h5, h6, h7⟩ := isNode_inv (hes es[i] (List.getElem_mem hi))
  rw [he] at hei
  obtain ⟨b, off, ha, hb, hc⟩ := hsl (by intro e; rw [e] at hvl; simp at hvl; omega)
  have key : ∀ j (x : D), j < 7 → (dcells (.agg [.int .i64 p, .int .i64 k, .str sp, .str nm, .list la, .list ls, .str tx]))[j]? = some x → ∃ u, w.cell? ⟨b, off + i * 7 + j, none⟩ = some u ∧ Den0 F w u x := by
    intro j x hj hxj
    have f := flat_at (isNode_len hes) hei j hj
    rw [hxj] at f
    have l : i * 7 + j < vs.length := by omega
    refine ⟨vs[i * 7 + j], ?_, hx _ _ _ (List.getElem?_eq_getElem l) f⟩
    rw [Nat.add_assoc]
    exact hc _ l
  obtain ⟨u0, g0, e0⟩ := key 0 _ (by decide) rfl
  obtain ⟨u1, g1, e1⟩ := key 1 _ (by decide) rfl
  obtain ⟨u2, g2, e2⟩ := key 2 _ (by decide) rfl
  obtain ⟨u3, g3, e3⟩ := key 3 _ (by decide) rfl
  obtain ⟨u4, g4, e4⟩ := key 4 _ (by decide) rfl
  obtain ⟨u5, g5, e5⟩ := key 5 _ (by decide) rfl
  obtain ⟨u6, g6, e6⟩ := key 6 _ (by decide) rfl
  have s4 : ∃ x c, u4 = .slice x la.length c := by
    cases e4 with
    | list a n c sz es vs h1 h2 h3 h4 h5 h6 h7 => exact ⟨a, c, by rw [h1]⟩
  have s5 : ∃ x c, u5 = .slice x ls.length c := by
    cases e5 with
    | list a n c sz es vs h1 h2 h3 h4 h5 h6 h7 => exact ⟨a, c, by rw [h1]⟩
  obtain ⟨x4, c4, rfl⟩ := s4
  obtain ⟨x5, c5, rfl⟩ := s5
  cases e0; cases e1; cases e2; cases e3; cases e6
  exact ⟨b, off, p, k, sp, nm, la, ls, tx, x4, c4, x5, c5, ha, hb, hgd.trans he, ⟨g0, g1, g2, g3, g4, g5, g6⟩, e4, e5, h4, h5, h6, h7⟩
def datL (zs : List Int) : DataW Unit := if zs = [] then .nil else .slice (ChangeShapes.lits .i64 zs) []
structure NR (F : Nat → Nat → Prop) (es : List D) (w : World) (bm bt k : Nat) (wr : World) : Prop where
  ex : ∃ Z vN vE vP n' D, NS F w bm bt Z vN vE vP (es.take k) (elF es k) (plF es k) wr ∧ NG Z vN vE vP bm bt n' D wr ∧ n' ≤ k ∧ Bk wr bt 83 #[vN, vE, .map (some bm), vP] ∧ IsMap D ∧ ∀ key, D.atKey (.int .i64 key) .nil = datL (rowF es key k)
theorem made_two (w : World) : (w.alloc (.map #[] 0)).ownsGroups (H := Unit) Tryz.prog 3 (w.heap.size + 1 + 1) 3 .i64 w.heap.size 0 (.map []) :=
  ⟨#[], 0, (MapKept.heap_alloc w _).1, ⟨by simp, MapKept.stamped_empty 0, by simp⟩, Nat.le_refl _, rfl, by omega, by simp, by simp⟩
theorem nr_start {F : Nat → Nat → Prop} {es : List D} {w w1 : World} (hb : Ge w w1) : NR F es w w1.heap.size (w1.heap.size + 1) 0 ((w1.alloc (.map #[] 0)).alloc (.cells #[.slice none 0 0, .slice none 0 0, .map (some w1.heap.size), .slice none 0 0] 83)) := by
  have hG : Ge w ((w1.alloc (.map #[] 0)).alloc (.cells #[.slice none 0 0, .slice none 0 0, .map (some w1.heap.size), .slice none 0 0] 83)) := (hb.new _).new _
  refine ⟨fun _ => False, .slice none 0 0, .slice none 0 0, .slice none 0 0, 0, .map [], ⟨hG, hb.size, rfl, by simp, fun b h => h.elim, ⟨[], World.ownsRow_nil _ _ _ _, by simp, by simp⟩, World.ownsInts_nil _ _ _ _, World.ownsInts_nil _ _ _ _, .inl rfl, .inl rfl, .inl rfl⟩, ?_, Nat.le_refl _, ?_, isMap_empty, fun key => rfl⟩
  · have h0 : NG (fun _ => False) (.slice none 0 0) (.slice none 0 0) (.slice none 0 0) w1.heap.size (w1.heap.size + 1) 0 (.map []) (w1.alloc (.map #[] 0)) := ⟨made_two w1, World.Shuns_made _ _⟩
    exact h0.keep rfl (r := none) ⟨rfl, rfl, rfl, by simp, fun k hk _ => (MapKept.heap_alloc _ _).2 k hk⟩ (.inl rfl)
  · have := Bk.new (w1.alloc (.map #[] 0)) 83 #[.slice none 0 0, .slice none 0 0, .map (some w1.heap.size), .slice none 0 0]
    simpa using this
def ZZ (Z : Nat → Prop) (W W' : World) (b : Nat) : Prop := Z b ∨ (W.heap.size ≤ b ∧ b < W'.heap.size)
section
variable {F : Nat → Nat → Prop} {w : World} {bm bt : Nat} {Z : Nat → Prop} {vN vE vP : Value} {ns : List D} {zE zP : List Int} {wr W W' : World} {n : Nat} {DD : DataW Unit}
theorem grown_none (h : Ge W W') : W.grownBy W' none := ⟨h.os, h.tape, h.output, h.size, fun k hk _ => h.block k hk⟩
theorem ns_ge (hlt : Lt F w) (h : NS F w bm bt Z vN vE vP ns zE zP W) (hb : Ge W W') : NS F w bm bt Z vN vE vP ns zE zP W' := h.keep hlt (grown_none hb) (by simp)
theorem ng_ge (h : NG Z vN vE vP bm bt n DD W) (ht : bt = bm + 1) (hb : Ge W W') : NG Z vN vE vP bm bt n DD W' := h.keep ht (grown_none hb) (.inl rfl)
theorem ns_grow (hlt : Lt F w) (h : NS F w bm bt Z vN vE vP ns zE zP W) (hb : Ge W W') : NS F w bm bt (ZZ Z W W') vN vE vP ns zE zP W' := by
  refine (ns_ge hlt h hb).fix (fun b h => .inl h) ?_
  obtain ⟨xs, g1, _⟩ := h.oN
  rintro b (hz | ⟨h1, h2⟩)
  · exact ⟨(h.z b hz).1, Nat.lt_of_lt_of_le (h.z b hz).2.1 hb.size, (h.z b hz).2.2⟩
  · have := h.htw
    refine ⟨by omega, h2, fun e => ?_, fun e => ?_, fun e => ?_⟩
    · have := own_lt g1 b e; omega
    · have := own_lt h.oE.1 b e; omega
    · have := own_lt h.oP.1 b e; omega
theorem ng_grow (h : NG Z vN vE vP bm bt n DD W) (ht : bt = bm + 1) (hb : Ge W W') : NG (ZZ Z W W') vN vE vP bm bt n DD W' := by
  have h1 : NG (ZZ Z W W') vN vE vP bm bt n DD W := h.reno fun g hg => by
    rcases hg with (hz | hz) | hz
    · exact .inl (.inl hz)
    · exact .inr hz.1
    · exact .inl (.inr hz)
  exact ng_ge h1 ht hb
theorem ns_node (hlt : Lt F w) (h : NS F w bm bt Z vN vE vP ns zE zP W) {xs : List Value} {p k : Int} {sp nm tx : List UInt8} {la ls : List D} {u4 u5 : Value} {A : Option Addr} {c : Nat} (h1 : ∀ u ∈ xs, u.oneCell' = true) (hx : ∀ (m : Nat) (v : Value) (x : D), xs[m]? = some v → (flat ns)[m]? = some x → Den0 (zf F Z) W v x)
    (hxl : xs.length = ns.length * 7) (hns : ∀ e ∈ ns, (dcells e).length = 7) (h4 : Den0 (zf F Z) W u4 (.list la)) (h5 : Den0 (zf F Z) W u5 (.list ls)) (o4 : u4.oneCell' = true) (o5 : u5.oneCell' = true)
    (hg : W.grownBy W' vN.ownBlock) (ho : W'.ownsRow (bt + 1) 71 7 (.slice A (ns.length + 1) c) (ns.length + 1) (xs ++ [.int .i64 p, .int .i64 k, .string ⟨sp.toArray⟩, .string ⟨nm.toArray⟩, u4, u5, .string ⟨tx.toArray⟩]))
    (loc : (Value.slice A (ns.length + 1) c).ownBlock = vN.ownBlock ∨ (Value.slice A (ns.length + 1) c).ownBlock = some W.heap.size) :
    NS F w bm bt Z (.slice A (ns.length + 1) c) vE vP (ns ++ [.agg [.int .i64 p, .int .i64 k, .str sp, .str nm, .list la, .list ls, .str tx]]) zE zP W' := by
  obtain ⟨xs0, g1, _, _⟩ := h.oN
  have hb : ∀ b, vN.ownBlock = some b → w.heap.size ≤ b := fun b hb => by have := (g1.lt b hb).1; have := h.hm; have := h.ht; omega
  have kp : ∀ {v x}, Den0 (zf F Z) W v x → Den0 (zf F Z) W' v x := fun hv => zden_keep hlt h.ge (zne h fun b hb => (h.z b hb).2.2.1) hb hg hv
  refine h.appN hlt hg loc (by simpa using ho) (fun u hu => ?_) (fun m v x hv hx' => ?_)
  · rcases List.mem_append.1 hu with hu | hu
    · exact h1 u hu
    · simp only [List.mem_cons, List.not_mem_nil, or_false] at hu
      rcases hu with rfl | rfl | rfl | rfl | rfl | rfl | rfl
      · rfl
      · rfl
      · rfl
      · rfl
      · exact o4
      · exact o5
      · rfl
  · have hfl : flat (ns ++ [D.agg [.int .i64 p, .int .i64 k, .str sp, .str nm, .list la, .list ls, .str tx]]) = flat ns ++ [.int .i64 p, .int .i64 k, .str sp, .str nm, .list la, .list ls, .str tx] := by
      unfold flat
      rw [List.flatMap_append]
      rfl
    rw [hfl] at hx'
    have hfn : (flat ns).length = xs.length := by rw [hxl]; exact flat_len hns
    by_cases hm : m < xs.length
    · rw [List.getElem?_append_left hm] at hv
      rw [List.getElem?_append_left (by omega)] at hx'
      exact kp (hx m v x hv hx')
    · rw [List.getElem?_append_right (by omega)] at hv
      rw [List.getElem?_append_right (by omega), hfn] at hx'
      generalize m - xs.length = j at hv hx'
      match j with
      | 0 => simp at hv hx'; subst hv; subst hx'; exact .int _ _
      | 1 => simp at hv hx'; subst hv; subst hx'; exact .int _ _
      | 2 => simp at hv hx'; subst hv; subst hx'; exact .str _
      | 3 => simp at hv hx'; subst hv; subst hx'; exact .str _
      | 4 => simp at hv hx'; subst hv; subst hx'; exact kp h4
      | 5 => simp at hv hx'; subst hv; subst hx'; exact kp h5
      | 6 => simp at hv hx'; subst hv; subst hx'; exact .str _
      | j + 7 => simp at hv
theorem ng_row (h : NG Z vN vE vP bm bt n DD W) (ht : bt = bm + 1) {v v' : Value} {vN' vE' vP' : Value} {size m : Nat} {e : TypeId} {xs : List Value} (ho : W.ownsRow (bt + 1) e size v m xs) (hg : W.grownBy W' v.ownBlock) (hv : ∀ b, v.ownBlock = some b → NoB Z vN vE vP b)
    (loc : v'.ownBlock = v.ownBlock ∨ v'.ownBlock = some W.heap.size) (hn : ∀ g, NoB Z vN' vE' vP' g → NoB Z vN vE vP g ∨ v'.ownBlock = some g) : NG Z vN' vE' vP' bm bt n DD W' := by
  have h1 : NG Z vN' vE' vP' bm bt n DD W := h.reno fun g hg' => by
    rcases hn g hg' with h | h
    · exact .inl h
    · rcases loc with l | l
      · rw [l] at h; exact .inl (hv g h)
      · rw [l] at h; injection h with h; exact .inr (by omega)
  have h2 : NG Z vN vE vP bm bt n DD W' := by
    refine h.keep ht hg ?_
    cases hb : v.ownBlock with
    | none => exact .inl rfl
    | some b => exact .inr (.inr ⟨b, rfl, by have := (ho.lt b hb).1; omega, hv b hb⟩)
  exact ⟨h2.gr, h1.sh.kept hg h.lt (fun e => by have := (ho.lt bm e.symm).1; omega)⟩
end
def R8 (F : Nat → Nat → Prop) (es : List D) (w : World) (bm k B : Nat) (cs : Array Value) (m : Nat) (e p : List Int) (wx : World) : Prop :=
  ∃ Z vN vE vP n' D, NS F w bm (bm + 1) Z vN vE vP (es.take m) e p wx ∧ NG Z vN vE vP bm (bm + 1) n' D wx ∧ n' ≤ k ∧ Bk wx (bm + 1) 83 #[vN, vE, .map (some bm), vP] ∧ Bk wx B 71 cs ∧ Z B ∧ IsMap D ∧ ∀ key, D.atKey (.int .i64 key) .nil = datL (rowF es key k)
end Go.Av
namespace Go.Av
open Go.Proofs Go.RowKit Go.Proofs.YtcogfddcdpgpkaaGreatDoor Go.Maps Go.MapKept
open Go.WideElems (Fit rd rg rd_val rd_key)
theorem key_int {kv : Value} {l : Lit} (h : keyOf Tryz.prog 3 kv = some l) : ∃ m : Int, kv = .int .i64 m := by
  have hk : Tryz.prog.underlying 3 = some (.int .i64) := by kernel_rfl
  cases kv with
  | int q m =>
    simp [keyOf, hk, mapKey] at h
    exact ⟨m, by rw [h.1.1]⟩
  | _ => simp [keyOf, hk, mapKey] at h
theorem groups_keys {w : World} {base b n : Nat} {D : DataW Unit} (h : w.ownsGroups Tryz.prog 3 base 3 .i64 b n D) : ∃ es clock, w.heap[b]? = some (.map es clock) ∧ ∀ x ∈ es.toList, ∃ m : Int, x.key = .int .i64 m := by
  obtain ⟨es, clock, hb, Fi, _⟩ := h
  refine ⟨es, clock, hb, fun x hx => ?_⟩
  obtain ⟨y, hy⟩ := Fi.reads x hx
  exact key_int (rd_key hy)
theorem look_val {es : Array MapEntry} {clock b : Nat} (n : Int) (hks : ∀ x ∈ es.toList, ∃ m : Int, x.key = .int .i64 m) :
    ∃ v, (∀ W : World, W.heap[b]? = some (.map es clock) → (Instr.lookup 80 (.map (some b)) (.int .i64 n) false).run Tryz.prog W = .ok v W) ∧
      ((v = .slice none 0 0 ∧ ∀ x ∈ es.toList, x.key ≠ .int .i64 n) ∨ ∃ (j : Nat) (x : MapEntry), es.toList[j]? = some x ∧ x.key = .int .i64 n ∧ x.val = v ∧ ∀ (i : Nat) (y : MapEntry), i < j → es.toList[i]? = some y → y.key ≠ .int .i64 n) := by
  have ht : Tryz.prog.underlying 80 = some (.map 3 81) := by kernel_rfl
  have hk : Tryz.prog.underlying 3 = some (.int .i64) := by kernel_rfl
  have hzr : ∀ w : World, (zeroValue 81).run Tryz.prog w = .ok (.slice none 0 0) w := fun w => by kernel_rfl
  have hkey : IsKey (.int .i64) (.int .i64 n) := rfl
  have hks' : ∀ x ∈ es.toList, IsKey (.int .i64) x.key := fun x hx => by
    obtain ⟨m, hm⟩ := hks x hx
    rw [hm]
    exact rfl
  rcases findNow_first hkey es.toList 0 hks' with ⟨f1, f2⟩ | ⟨j, e0, f1, f2, f3, f4⟩
  · refine ⟨.slice none 0 0, fun W h1 => ?_, .inl ⟨rfl, f2⟩⟩
    simp [Instr.lookup, run_underlying ht, Go.MapKept.run_getObj_map h1, Go.MapKept.run_checkKey hk hkey, Go.MapKept.run_findKey hk f1, hzr, Result.andThen]
  · refine ⟨e0.val, fun W h1 => ?_, .inr ⟨j, e0, f2, f3, rfl, f4⟩⟩
    simp [Instr.lookup, run_underlying ht, Go.MapKept.run_getObj_map h1, Go.MapKept.run_checkKey hk hkey, Go.MapKept.run_findKey hk f1, Result.andThen]
theorem look_same {w W : World} {base b n : Nat} {D : DataW Unit} {z : Int} {v : Value} (h : w.ownsGroups Tryz.prog 3 base 3 .i64 b n D) (hW : W.heap[b]? = w.heap[b]?) (hr : (Instr.lookup 80 (.map (some b)) (.int .i64 z) false).run Tryz.prog w = .ok v w) :
    (Instr.lookup 80 (.map (some b)) (.int .i64 z) false).run Tryz.prog W = .ok v W := by
  obtain ⟨es, clock, hb, hks⟩ := groups_keys h
  obtain ⟨u, hu, _⟩ := look_val (b := b) (clock := clock) z hks
  have h1 := hu w hb
  rw [hr] at h1
  have : u = v := by injection h1 with h1; exact h1.symm
  subst this
  exact hu W (hW.trans hb)
theorem look_shun {w : World} {base b n : Nat} {D : DataW Unit} {z : Int} {v : Value} {No : Nat → Prop} (h : w.ownsGroups Tryz.prog 3 base 3 .i64 b n D) (hs : w.Shuns b No) (hr : (Instr.lookup 80 (.map (some b)) (.int .i64 z) false).run Tryz.prog w = .ok v w) :
    ∀ g, v.ownBlock = some g → ¬ No g := by
  obtain ⟨es, clock, hb, hks⟩ := groups_keys h
  obtain ⟨u, hu, hw⟩ := look_val (b := b) (clock := clock) z hks
  have h1 := hu w hb
  rw [hr] at h1
  have : u = v := by injection h1 with h1; exact h1.symm
  subst this
  intro g hg
  rcases hw with ⟨rfl, _⟩ | ⟨j, x, hj, _, rfl, _⟩
  · cases hg
  · exact hs es clock hb x (List.mem_of_getElem? hj) g hg
theorem group_put {F : Nat → Nat → Prop} {w W W1 W2 : World} {bm n : Nat} {Z : Nat → Prop} {vN vE vP v v' : Value} {ns : List D} {zE zP zs : List Int} {DD D' : DataW Unit} {key : Int} (hlt : Lt F w) (S : NS F w bm (bm + 1) Z vN vE vP ns zE zP W) (N : NG Z vN vE vP bm (bm + 1) n DD W)
    (hr : (Instr.lookup 80 (.map (some bm)) (.int .i64 key) false).run Tryz.prog W = .ok v W) (hoi : W.ownsInts (bm + 1 + 1) 3 .i64 v zs) (hg1 : W.grownBy W1 v.ownBlock) (loc : v'.ownBlock = v.ownBlock ∨ v'.ownBlock = some W.heap.size)
    (hm : (Instr.mapUpdate 80 (.map (some bm)) (.int .i64 key) v').run Tryz.prog W1 = .ok () W2) (hg2 : W1.grownBy W2 (some bm)) (hgr : W2.ownsGroups Tryz.prog 3 (bm + 1 + 1) 3 .i64 bm (n + 1) D') (hkw : (Lit.int .i64 key).wf = true) (hn : n < maxLen) :
    NS F w bm (bm + 1) Z vN vE vP ns zE zP W2 ∧ NG Z vN vE vP bm (bm + 1) (n + 1) D' W2 ∧ ∀ cs, Bk W (bm + 1) 83 cs → Bk W2 (bm + 1) 83 cs := by
  have hsh := look_shun N.gr N.sh hr
  have hvb : ∀ g, v.ownBlock = some g → bm + 1 < g := fun g hg => (hoi.1.lt g hg).1
  have S1 := S.keep hlt hg1 (fun b hb => .inr (.inr ⟨hvb b hb, fun hz => hsh b hb (.inl hz), fun e => hsh b hb (.inr (.inl e)), fun e => hsh b hb (.inr (.inr (.inl e))), fun e => hsh b hb (.inr (.inr (.inr e)))⟩))
  have S2 := S1.keep hlt hg2 (fun b hb => by injection hb with hb; exact .inr (.inl hb.symm))
  refine ⟨S2, ⟨hgr, ?_⟩, fun cs hB => (hB.grown hg1 (fun e => by have := hvb _ e.symm; omega)).grown hg2 (fun e => by injection e with e; omega)⟩
  obtain ⟨es, clock, hb, Fi, hs, _, hbb, _⟩ := N.gr
  have hblt : bm < W.heap.size := (Array.getElem?_eq_some_iff.1 hb).1
  have hb1 : W1.heap[bm]? = some (.map es clock) := (hg1.block bm hblt (fun e1 => by have := hvb bm e1.symm; omega)).trans hb
  obtain ⟨es', clock', hb2, hwho⟩ := stored_who kd3 (show Tryz.prog.underlying 80 = some (.map 3 81) by kernel_rfl) hb1 Fi (Nat.lt_of_le_of_lt hs hn) (keyOf_int_mk (show Tryz.prog.underlying 3 = some (.int .i64) by kernel_rfl) hkw) hm
  intro es2 clock2 hb2' y hy g hyg
  obtain ⟨rfl, rfl⟩ : es' = es2 ∧ clock' = clock2 := by rw [hb2] at hb2'; simpa using hb2'
  rcases hwho y hy with ⟨hy0, _⟩ | ⟨_, hval⟩
  · exact N.sh es clock hb y hy0 g hyg
  · rw [hval] at hyg
    rcases loc with l | l
    · exact hsh g (l.symm.trans hyg)
    · rw [l] at hyg
      injection hyg with hyg
      obtain ⟨xs, g1, _⟩ := S.oN
      rintro (h | h | h | h)
      · have := (S.z g h).2.1; omega
      · have := own_lt g1 g h; omega
      · have := own_lt S.oE.1 g h; omega
      · have := own_lt S.oP.1 g h; omega
end Go.Av
namespace Go.Av
open Go.Proofs Go.RowKit Go.Proofs.YtcogfddcdpgpkaaGreatDoor Go.Maps
open Go.WideElems (Fit rd rg rd_val rd_key)
theorem lits_inj {q : IntKind} {a b : List Int} (h : ChangeShapes.lits (H := Unit) q a = ChangeShapes.lits q b) : a = b := by
  unfold ChangeShapes.lits at h
  exact (List.map_inj_right (fun a b hab => by cases hab; rfl)).1 h
theorem datL_eq {w : World} {base : Nat} {e : TypeId} {v : Value} {zs ys : List Int} (ho : w.ownsInts base e .i64 v zs) (h : datL ys = rowDatum .i64 v zs) : zs = ys := by
  rcases ho.datum (H := Unit) with ⟨h1, rfl⟩ | h1
  · rw [h1] at h
    unfold datL at h
    split at h
    · rename_i hy; exact hy.symm
    · cases h
  · rw [h1] at h
    unfold datL at h
    split at h
    · cases h
    · injection h with h
      exact (lits_inj h).symm
theorem key_wf {kv : Value} {l : Lit} (h : keyOf Tryz.prog 3 kv = some l) : ∃ m : Int, kv = .int .i64 m ∧ (Lit.int .i64 m).wf = true := by
  have hk : Tryz.prog.underlying 3 = some (.int .i64) := by kernel_rfl
  cases kv with
  | int q m =>
    simp [keyOf, hk, mapKey] at h
    obtain ⟨⟨rfl, h1⟩, _⟩ := h
    exact ⟨m, rfl, h1⟩
  | _ => simp [keyOf, hk, mapKey] at h
theorem flat_i64 : ∀ zs : List Int, flat (zs.map (D.int .i64)) = zs.map (D.int .i64)
  | [] => rfl
  | z :: r => by
    have h := flat_i64 r
    unfold flat at h ⊢
    rw [List.map_cons, List.flatMap_cons, h]
    rfl
theorem ints_den {F : Nat → Nat → Prop} {w : World} {base : Nat} {v : Value} {zs : List Int} (h : w.ownsInts base 3 .i64 v zs) (hF : ∀ b o, base ≤ b → b < w.heap.size → F b o) : Den0 F w v (i64s zs) := by
  have hfl := flat_i64 zs
  refine own_den (.inr h.1) (by simp) (by decide) (fun e he => ?_) hF (fun u hu => ?_) (fun i u x hu hx => ?_)
  · obtain ⟨z, _, rfl⟩ := List.mem_map.1 he
    rfl
  · obtain ⟨z, _, rfl⟩ := List.mem_map.1 hu
    rfl
  · rw [hfl] at hx
    simp only [List.getElem?_map, Option.map_eq_some_iff] at hu hx
    obtain ⟨z, hz, rfl⟩ := hu
    obtain ⟨z', hz', rfl⟩ := hx
    rw [hz] at hz'
    obtain rfl := Option.some.inj hz'
    exact .int _ _
theorem rowF_none {es : List D} {z : Int} : ∀ {k : Nat}, k ≤ es.length → z ∉ es.map ndP → rowF es z k = []
  | 0, _, _ => rfl
  | k + 1, hk, h => by
    have hk' : k < es.length := hk
    have hm : ndP (es.getD k .bad) ∈ es.map ndP := by
      have : es.getD k .bad = es[k] := by simp [List.getD, hk']
      rw [this]
      exact List.mem_map.2 ⟨_, List.getElem_mem hk', rfl⟩
    have hn : ¬ (ndK (es.getD k .bad) = 1 ∧ ndP (es.getD k .bad) = z) := fun hh => h (by rw [← hh.2]; exact hm)
    rw [rowF, if_neg hn]
    exact rowF_none (Nat.le_of_succ_le hk) h
theorem kfind_map (z : Int) (f : Int → D) : ∀ es : List D, kfind z (es.map ndP) (es.map fun e => f (ndP e)) = if z ∈ es.map ndP then f z else .list []
  | [] => rfl
  | e :: es => by
    simp only [List.map_cons, kfind]
    by_cases h : ndP e = z
    · rw [if_pos h, if_pos (by simp [h]), h]
    · rw [if_neg h, kfind_map z f es]
      have : (z ∈ ndP e :: es.map ndP) ↔ z ∈ es.map ndP := by
        rw [List.mem_cons]
        exact ⟨fun hh => hh.elim (fun e => absurd e.symm h) id, .inr⟩
      simp only [this]
theorem kfind_rows (es : List D) (z : Int) : kfind z (es.map ndP) (es.map fun e => i64s (rowF es (ndP e) es.length)) = i64s (rowF es z es.length) := by
  rw [kfind_map z (fun q => i64s (rowF es q es.length))]
  split
  · rfl
  · rename_i h
    rw [rowF_none (Nat.le_refl _) h]
    rfl
theorem nr_den {F : Nat → Nat → Prop} {es : List D} {w : World} {bm : Nat} {wr : World} (hlt : Lt F w) (hs : ∀ e ∈ es, isNode e = true) (hL : es.length ≤ 10000) (hpr : ∀ e ∈ es, -1 ≤ ndP e ∧ ndP e < 10000) (h : NR F es w bm (bm + 1) es.length wr) :
    Ge w wr ∧ Den0 (nw F w wr) wr (.pointer (some ⟨bm + 1, 0, none⟩)) (treeD es) := by
  obtain ⟨Z, vN, vE, vP, n', DD, S, N, hn', hB, hDm, hat⟩ := h.ex
  refine ⟨S.ge, ?_⟩
  have hbm := S.hm
  have hF : ∀ b o, bm + 1 + 1 ≤ b → b < wr.heap.size → nw F w wr b o := fun b o h1 h2 => .inr ⟨by omega, h2⟩
  have hbt : bm + 1 < wr.heap.size := S.htw
  have dN : Den0 (nw F w wr) wr vN (.list es) := by
    obtain ⟨xs, g1, g2, g3⟩ := S.oN
    rw [List.take_length] at g1 g3
    refine own_den (.inr g1) rfl (by decide) (isNode_len hs) hF g2 fun i v x hv hx => (g3 i v x hv hx).grow fun b o h => h.imp id fun h => ?_
    have := S.z b h
    exact ⟨by omega, this.2.1⟩
  have dE := ints_den S.oE hF
  have dP := ints_den S.oP hF
  have key : ∀ z : Int, (Lit.int .i64 z).wf = true → ∃ v, (Instr.lookup 80 (.map (some bm)) (.int .i64 z) false).run Tryz.prog wr = .ok v wr ∧ wr.ownsInts (bm + 1 + 1) 3 .i64 v (rowF es z es.length) := by
    intro z hz
    obtain ⟨v, zs, hrun, hat9, hoi, hzl, hback⟩ := N.gr.at kd3 (show Tryz.prog.underlying 80 = some (.map 3 81) by kernel_rfl) (show (zeroValue 81).run Tryz.prog wr = .ok (.slice none 0 0) wr by kernel_rfl) (by unfold maxLen; omega) (keyOf_int_mk (show Tryz.prog.underlying 3 = some (.int .i64) by kernel_rfl) hz)
    have : zs = rowF es z es.length := datL_eq hoi ((hat z).symm.trans hat9)
    subst this
    exact ⟨v, hrun, hoi⟩
  have dM : Den0 (nw F w wr) wr (.map (some bm)) (.imap (es.map ndP) (es.map fun e => i64s (rowF es (ndP e) es.length))) := by
    obtain ⟨em, clock, hb, Fi, _⟩ := N.gr
    have hks : ∀ x ∈ em.toList, ∃ m : Int, x.key = .int .i64 m ∧ (Lit.int .i64 m).wf = true := fun x hx => by
      obtain ⟨y, hy⟩ := Fi.reads x hx
      exact key_wf (rd_key hy)
    have hks' : ∀ x ∈ em.toList, ∃ m : Int, x.key = .int .i64 m := fun x hx => (hks x hx).imp fun _ h => h.1
    refine .imap bm em clock _ _ hb (.inr ⟨hbm, by omega⟩) hks' (fun z hz => ?_) (fun j x z hj hxz hfirst => ?_)
    · rw [kfind_rows]
      by_cases hm : z ∈ es.map ndP
      · obtain ⟨e, he, rfl⟩ := List.mem_map.1 hm
        have hr := hpr e he
        obtain ⟨v, hrun, hoi⟩ := key (ndP e) (WalkArith.wf_i64 (by omega))
        obtain ⟨u, hu, hw⟩ := look_val (b := bm) (clock := clock) (ndP e) hks'
        have h1 := hu wr hb
        rw [hrun] at h1
        have : u = v := by injection h1 with h1; exact h1.symm
        subst this
        rcases hw with ⟨rfl, _⟩ | ⟨j, x, hj, hx, _⟩
        · have := hoi.unique (World.ownsInts_nil wr (bm + 1 + 1) 3 .i64)
          rw [this]
          rfl
        · exact absurd hx (hz x (List.mem_of_getElem? hj))
      · rw [rowF_none (Nat.le_refl _) hm]
        rfl
    · rw [kfind_rows]
      obtain ⟨m, hm, hwf⟩ := hks x (List.mem_of_getElem? hj)
      rw [hxz] at hm
      injection hm with _ hm
      subst hm
      obtain ⟨v, hrun, hoi⟩ := key z hwf
      obtain ⟨u, hu, hw⟩ := look_val (b := bm) (clock := clock) z hks'
      have h1 := hu wr hb
      rw [hrun] at h1
      have : u = v := by injection h1 with h1; exact h1.symm
      subst this
      rcases hw with ⟨rfl, hno⟩ | ⟨j', x', hj', hx', hv', hf'⟩
      · exact absurd hxz (hno x (List.mem_of_getElem? hj))
      · have hjj : j = j' := by
          rcases Nat.lt_trichotomy j j' with h | h | h
          · exact absurd hxz (hf' j x h hj)
          · exact h
          · exact absurd hx' (hfirst j' x' h hj')
        subst hjj
        rw [hj] at hj'
        obtain rfl := Option.some.inj hj'
        rw [hv']
        exact ints_den hoi hF
  refine Eq.mp (congrArg (fun z => Den0 _ _ (.pointer (some ⟨bm + 1, z, none⟩)) (treeD es)) (Nat.zero_add 0)) ?_
  refine Den0.fix (.agg [.list es, i64s (elF es es.length), .imap (es.map ndP) (es.map fun e => i64s (rowF es (ndP e) es.length)), i64s (plF es es.length)]) (bm + 1) 0 0 [vN, vE, .map (some bm), vP] rfl ?_ ?_
  · intro i v hv
    have hcell : wr.cell? ⟨bm + 1, 0 + i, none⟩ = some v := by
      rw [Nat.zero_add, hB.cell i]
      simpa using hv
    refine ⟨.inr ⟨by omega, hbt⟩, hcell, ?_⟩
    match i with
    | 0 => simp at hv; subst hv; cases dN; rfl
    | 1 => simp at hv; subst hv; cases dE; rfl
    | 2 => simp at hv; subst hv; rfl
    | 3 => simp at hv; subst hv; cases dP; rfl
    | i + 4 => simp at hv
  · intro i v x hv hx
    match i with
    | 0 => simp [dcells] at hv hx; subst hv; subst hx; exact dN
    | 1 => simp [dcells] at hv hx; subst hv; subst hx; exact dE
    | 2 => simp [dcells] at hv hx; subst hv; subst hx; exact dM
    | 3 => simp [dcells] at hv hx; subst hv; subst hx; exact dP
    | i + 4 => simp at hv
end Go.Av
namespace Go.Av
structure At where
  sp : List UInt8
  nm : List UInt8
  vl : List UInt8
  deriving DecidableEq
structure Nd where
  p : Int
  k : Int
  sp : List UInt8
  nm : List UInt8
  at_ : List At
  st : List (List UInt8)
  tx : List UInt8
  deriving DecidableEq
def At.d (a : At) : D := .agg [.str a.sp, .str a.nm, .str a.vl]
def Nd.d (n : Nd) : D := .agg [.int .i64 n.p, .int .i64 n.k, .str n.sp, .str n.nm, .list (n.at_.map At.d), .list (n.st.map .str), .str n.tx]
theorem getD_map {α : Type} {xs : List α} {f : α → D} {i : Nat} {x : α} (h : xs[i]? = some x) : (xs.map f).getD i .bad = f x := by
  simp [List.getD, h]
theorem some_at {α : Type} {xs : List α} {i : Nat} (h : i < xs.length) : ∃ x, xs[i]? = some x := ⟨_, List.getElem?_eq_getElem h⟩
theorem lenM {α : Type} (xs : List α) (f : α → D) : ((xs.map f).length : Int) = xs.length := by simp
theorem lenM0 {α : Type} (xs : List α) (f : α → D) : (xs.map f).length = xs.length := by simp
theorem wrapS (i : Nat) (h : i ≤ 140737488355328) : IntKind.i64.wrap ((i : Int) + 1) = ((i + 1 : Nat) : Int) := by
  rw [wrap64 _ (by omega) (by omega)]
  omega
theorem ndat (n : Nd) : n.d = .agg [.int .i64 n.p, .int .i64 n.k, .str n.sp, .str n.nm, .list (n.at_.map At.d), .list (n.st.map .str), .str n.tx] := rfl
def Small (ns : List Nd) : Prop := ns.length ≤ 10000 ∧ ∀ n ∈ ns, n.at_.length ≤ 1000000 ∧ n.st.length ≤ 1000000
end Go.Av
namespace Go.Av
def kAt (ns : List Nd) (i : Nat) : Int := match ns[i]? with | some n => n.k | none => 0
def pAt (ns : List Nd) (i : Nat) : Int := match ns[i]? with | some n => n.p | none => 0
def rowL (ns : List Nd) (key : Int) : Nat → List Int
  | 0 => []
  | k + 1 => if kAt ns k = 1 ∧ pAt ns k = key then rowL ns key k ++ [(k : Int)] else rowL ns key k
theorem ndK_at {ns : List Nd} {k : Nat} (h : k < ns.length) : ndK ((ns.map Nd.d).getD k .bad) = kAt ns k ∧ ndP ((ns.map Nd.d).getD k .bad) = pAt ns k := by
  obtain ⟨x, hx⟩ := some_at h
  rw [getD_map hx]
  unfold kAt pAt
  rw [hx]
  exact ⟨rfl, rfl⟩
theorem rowF_rowL {ns : List Nd} {key : Int} : ∀ {k : Nat}, k ≤ ns.length → rowF (ns.map Nd.d) key k = rowL ns key k
  | 0, _ => rfl
  | k + 1, h => by
    obtain ⟨e1, e2⟩ := ndK_at (ns := ns) (k := k) h
    rw [rowF, rowL, e1, e2, rowF_rowL (Nat.le_of_succ_le h)]
theorem rowL_pre {ns : List Nd} {key : Int} {k : Nat} : ∀ {m : Nat}, k ≤ m → (rowL ns key m).take (rowL ns key k).length = rowL ns key k ∧ (rowL ns key k).length ≤ (rowL ns key m).length
  | 0, h => by
    obtain rfl : k = 0 := by omega
    exact ⟨rfl, Nat.le_refl _⟩
  | m + 1, h => by
    by_cases e : k = m + 1
    · subst e
      exact ⟨List.take_length, Nat.le_refl _⟩
    · obtain ⟨h1, h2⟩ := rowL_pre (key := key) (ns := ns) (show k ≤ m by omega)
      rw [rowL]
      split
      · rw [List.take_append_of_le_length h2, h1]
        exact ⟨rfl, by simp; omega⟩
      · exact ⟨h1, h2⟩
theorem rowL_len {ns : List Nd} {key : Int} : ∀ {m : Nat}, (rowL ns key m).length ≤ m
  | 0 => Nat.le_refl _
  | m + 1 => by
    have := rowL_len (ns := ns) (key := key) (m := m)
    rw [rowL]
    split
    · simp; omega
    · omega
theorem rowL_succ {ns : List Nd} {i : Nat} (hk : kAt ns i = 1) : rowL ns (pAt ns i) (i + 1) = rowL ns (pAt ns i) i ++ [(i : Int)] := by
  rw [rowL, if_pos ⟨hk, rfl⟩]
theorem plF_at {ns : List Nd} : ∀ {m : Nat}, m ≤ ns.length → (plF (ns.map Nd.d) m).length = m ∧ ∀ i, i < m → (plF (ns.map Nd.d) m)[i]? = some ((rowL ns (pAt ns i) i).length : Int)
  | 0, _ => ⟨rfl, fun i h => absurd h (by omega)⟩
  | m + 1, h => by
    obtain ⟨h1, h2⟩ := plF_at (ns := ns) (m := m) (by omega)
    rw [plF, (ndK_at (ns := ns) (k := m) h).2, rowF_rowL (by omega)]
    refine ⟨by simp [h1], fun i hi => ?_⟩
    rw [List.getElem?_append]
    split
    · exact h2 i (by omega)
    · obtain rfl : i = m := by omega
      rw [h1, Nat.sub_self]
      rfl
theorem elB_at {ns : List Nd} {n : Int} (h : (decide (0 ≤ n) && (decide (n < ns.length) && kAt ns n.toNat == 1)) = true) : ∃ i : Nat, n = (i : Int) ∧ i < ns.length ∧ kAt ns i = 1 := by
  simp only [Bool.and_eq_true, decide_eq_true_eq, beq_iff_eq] at h
  exact ⟨n.toNat, by omega, by omega, h.2.2⟩
def elB (ns : List Nd) (n : Int) : Bool := decide (0 ≤ n) && (decide (n < ns.length) && kAt ns n.toNat == 1)
def rowI (ns : List Nd) (n : Int) : List Int := if elB ns n = true then rowL ns (pAt ns n.toNat) (n.toNat + 1) else []
def parI (ns : List Nd) (n : Int) : Int × Bool := if elB ns n = true ∧ 0 ≤ pAt ns n.toNat then (pAt ns n.toNat, true) else (0, false)
def ahdI (ns : List Nd) (n : Int) : Int × Bool := if elB ns n = true then (match (rowL ns (pAt ns n.toNat) n.toNat).getLast? with | some a => (a, true) | none => (0, false)) else (0, false)
def treeN (ns : List Nd) : D := treeD (ns.map Nd.d)
theorem treeN_form (ns : List Nd) : ∃ (E : D) (K : List Int) (V : List D) (P : List Int), treeN ns = .fix (.agg [.list (ns.map Nd.d), E, .imap K V, .list (P.map (.int .i64))]) 0 ∧ P.length = ns.length ∧ (∀ i, i < ns.length → (P.map (D.int .i64)).getD i .bad = .int .i64 ((rowL ns (pAt ns i) i).length : Int)) ∧
    ∀ z, kfind z K V = .list ((rowL ns z ns.length).map (.int .i64)) := by
  obtain ⟨h1, h2⟩ := plF_at (ns := ns) (Nat.le_refl _)
  refine ⟨i64s (elF (ns.map Nd.d) ns.length), (ns.map Nd.d).map ndP, (ns.map Nd.d).map fun e => i64s (rowF (ns.map Nd.d) (ndP e) (ns.map Nd.d).length), plF (ns.map Nd.d) ns.length, ?_, h1, fun i hi => ?_, fun z => ?_⟩
  · unfold treeN treeD
    rw [List.length_map]
    rfl
  · simp [List.getD, h2 i hi]
  · have := kfind_rows (ns.map Nd.d) z
    have e : i64s (rowF (ns.map Nd.d) z (ns.map Nd.d).length) = .list ((rowL ns z ns.length).map (.int .i64)) := by
      rw [List.length_map, rowF_rowL (Nat.le_refl _)]
      rfl
    exact this.trans e
end Go.Av
namespace Go.Av
open Go.Proofs Go.RowKit Go.Proofs.YtcogfddcdpgpkaaGreatDoor
def szAll (sz : Nat) (es : List D) : Bool := es.all (fun e => (dcells e).length == sz) && decide (es.length ≤ 1000000)
theorem szAll_inv {sz : Nat} {es : List D} (h : szAll sz es = true) : (∀ e ∈ es, (dcells e).length = sz) ∧ es.length ≤ 1000000 := by
  unfold szAll at h
  simp only [Bool.and_eq_true, List.all_eq_true, beq_iff_eq, decide_eq_true_eq] at h
  exact h
def nodesOk (es : List D) : Bool := es.all isNode && decide (es.length ≤ 10000)
theorem nodesOk_inv {es : List D} (h : nodesOk es = true) : (∀ e ∈ es, isNode e = true) ∧ es.length ≤ 10000 := by
  unfold nodesOk at h
  simp only [Bool.and_eq_true, List.all_eq_true, decide_eq_true_eq] at h
  exact h
theorem den_list0 {c : Nat → Nat} {ν : Nat → Nat → Nat} {F : Nat → Nat → Prop} {w : World} {v : Value} {es : List D} (h : Den c ν F w v (.list es)) : Den0 F w v (.list es) := by
  cases h with
  | pure _ _ h => exact h
theorem node_pure {d : D} (h : isNode d = true) : ∀ {c ν F w v}, Den c ν F w v d → ∃ p k sp nm la ls tx v4 v5, d = .agg [.int .i64 p, .int .i64 k, .str sp, .str nm, .list la, .list ls, .str tx] ∧ v = .agg #[.int .i64 p, .int .i64 k, .string ⟨sp.toArray⟩, .string ⟨nm.toArray⟩, v4, v5, .string ⟨tx.toArray⟩] ∧
    Den0 F w v4 (.list la) ∧ Den0 F w v5 (.list ls) ∧ v4.oneCell' = true ∧ v5.oneCell' = true := by
  intro c ν F w v hd
  obtain ⟨p, k, sp, nm, la, ls, tx, rfl, _⟩ := isNode_inv h
  have key : ∀ vs : List Value, vs.length = 7 → (∀ (i : Nat) (v : Value) (x : D), vs[i]? = some v → [D.int .i64 p, .int .i64 k, .str sp, .str nm, .list la, .list ls, .str tx][i]? = some x → Den c ν F w v x) →
      ∃ v4 v5, vs.toArray = #[.int .i64 p, .int .i64 k, .string ⟨sp.toArray⟩, .string ⟨nm.toArray⟩, v4, v5, .string ⟨tx.toArray⟩] ∧ Den0 F w v4 (.list la) ∧ Den0 F w v5 (.list ls) := by
    intro vs hl hh
    match vs, hl with
    | [u0, u1, u2, u3, u4, u5, u6], _ =>
      have h0 := (hh 0 u0 _ rfl rfl).int_
      have h1 := (hh 1 u1 _ rfl rfl).int_
      have h2 := (hh 2 u2 _ rfl rfl).str_
      have h3 := (hh 3 u3 _ rfl rfl).str_
      have h4 := den_list0 (hh 4 u4 _ rfl rfl)
      have h5 := den_list0 (hh 5 u5 _ rfl rfl)
      have h6 := (hh 6 u6 _ rfl rfl).str_
      subst h0 h1 h2 h3 h6
      exact ⟨u4, u5, rfl, h4, h5⟩
  have one : ∀ {u : Value} {l : List D}, Den0 F w u (.list l) → u.oneCell' = true := by
    intro u l h
    cases h
    rfl
  cases hd with
  | pure _ _ hp =>
    cases hp with
    | agg vs cs h1 h2 h3 =>
      obtain ⟨v4, v5, e, h4, h5⟩ := key vs h1 fun i v d a b => .pure _ _ (h3 i v d a b)
      exact ⟨p, k, sp, nm, la, ls, tx, v4, v5, rfl, by rw [e], h4, h5, one h4, one h5⟩
  | agg vs cs h1 h2 h3 =>
    obtain ⟨v4, v5, e, h4, h5⟩ := key vs h1 h3
    exact ⟨p, k, sp, nm, la, ls, tx, v4, v5, rfl, by rw [e], h4, h5, one h4, one h5⟩
theorem node_den {F : Nat → Nat → Prop} {w : World} {p k : Int} {sp nm tx : List UInt8} {la ls : List D} {v4 v5 : Value} (h4 : Den0 F w v4 (.list la)) (h5 : Den0 F w v5 (.list ls)) (o4 : v4.oneCell' = true) (o5 : v5.oneCell' = true) :
    Den0 F w (.agg #[.int .i64 p, .int .i64 k, .string ⟨sp.toArray⟩, .string ⟨nm.toArray⟩, v4, v5, .string ⟨tx.toArray⟩]) (.agg [.int .i64 p, .int .i64 k, .str sp, .str nm, .list la, .list ls, .str tx]) := by
  refine Den0.agg [.int .i64 p, .int .i64 k, .string ⟨sp.toArray⟩, .string ⟨nm.toArray⟩, v4, v5, .string ⟨tx.toArray⟩] _ rfl ?_ ?_
  · intro u hu
    simp only [List.mem_cons, List.not_mem_nil, or_false] at hu
    rcases hu with rfl | rfl | rfl | rfl | rfl | rfl | rfl <;> first | rfl | exact o4 | exact o5
  · intro i v x hv hx
    match i with
    | 0 => simp at hv hx; subst hv; subst hx; exact .int _ _
    | 1 => simp at hv hx; subst hv; subst hx; exact .int _ _
    | 2 => simp at hv hx; subst hv; subst hx; exact .str _
    | 3 => simp at hv hx; subst hv; subst hx; exact .str _
    | 4 => simp at hv hx; subst hv; subst hx; exact h4
    | 5 => simp at hv hx; subst hv; subst hx; exact h5
    | 6 => simp at hv hx; subst hv; subst hx; exact .str _
    | i + 7 => simp at hv
def orExt (a b : Call) : Call := fun f args pbs => match a f args pbs with | some r => some r | none => b f args pbs
theorem orExt_ok {P : Program} [Gs] {a b : Call} (ha : CallOK P a) (hb : CallOK P b) : CallOK P (orExt a b) := by
  intro f args pbs d r pbs' h
  unfold orExt at h
  split at h
  · rename_i x hx
    injection h with h
    subst h
    exact ha f args pbs d r pbs' hx
  · exact hb f args pbs d r pbs' h
end Go.Av
namespace Go.Av
open Go.Proofs Go.RowKit Go.Proofs.YtcogfddcdpgpkaaGreatDoor
def extCl : Call := fun f args pbs => match f, args, pbs with
  | 61, [.list es], [] => if szAll 1 es = true then some (.list es, [], []) else none
  | 58, [.list es], [] => if szAll 3 es = true then some (.list es, [], []) else none
  | 59, [.list es], [] => if szAll 1 es = true then some (.list es, [], []) else none
  | 32, [d], [] => if isNode d = true then some (d, [], []) else none
  | _, _, _ => none
theorem extCl_ok : CallOK Tryz.prog extCl := by
  intro f args pbs d r pbs' h
  unfold extCl at h
  split at h
  · rename_i es
    split at h
    · rename_i hc
      obtain ⟨hs, hl⟩ := szAll_inv hc
      simp only [Option.some.injEq, Prod.mk.injEq] at h
      obtain ⟨rfl, rfl, rfl⟩ := h
      refine ⟨⟨_, Tryz.func61, rfl⟩, fun vals w F μ hv hd hb _ hlt hg => ?_⟩
      obtain ⟨v, rfl, h0⟩ := one_den hv hd
      exact (clone32_any es F w v hlt (den_list0 h0) hs (by omega)).mono fun e w' h => h.ret hlt
    · cases h
  · rename_i es
    split at h
    · rename_i hc
      obtain ⟨hs, hl⟩ := szAll_inv hc
      simp only [Option.some.injEq, Prod.mk.injEq] at h
      obtain ⟨rfl, rfl, rfl⟩ := h
      refine ⟨⟨_, Tryz.func58, rfl⟩, fun vals w F μ hv hd hb _ hlt hg => ?_⟩
      obtain ⟨v, rfl, h0⟩ := one_den hv hd
      exact (clone46_any es F w v hlt (den_list0 h0) hs (by omega)).mono fun e w' h => h.ret hlt
    · cases h
  · rename_i es
    split at h
    · rename_i hc
      obtain ⟨hs, hl⟩ := szAll_inv hc
      simp only [Option.some.injEq, Prod.mk.injEq] at h
      obtain ⟨rfl, rfl, rfl⟩ := h
      refine ⟨⟨_, Tryz.func59, rfl⟩, fun vals w F μ hv hd hb _ hlt hg => ?_⟩
      obtain ⟨v, rfl, h0⟩ := one_den hv hd
      exact (clone47_any es F w v hlt (den_list0 h0) hs (by omega)).mono fun e w' h => h.ret hlt
    · cases h
  · rename_i d0
    split at h
    · rename_i hc
      simp only [Option.some.injEq, Prod.mk.injEq] at h
      obtain ⟨rfl, rfl, rfl⟩ := h
      refine ⟨⟨_, Tryz.func32, rfl⟩, fun vals w F μ hv hd hb _ hlt hg => ?_⟩
      obtain ⟨v, rfl, h0⟩ := one_den hv hd
      obtain ⟨p, k, sp, nm, la, ls, tx, v4, v5, rfl, rfl, h4, h5, o4, o5⟩ := node_pure hc h0
      obtain ⟨_, _, _, _, la', ls', _, e, s4, s5, l4, l5⟩ := isNode_inv hc
      simp only [D.agg.injEq, List.cons.injEq, D.list.injEq, and_true] at e
      obtain ⟨_, _, _, _, rfl, rfl, _⟩ := e
      refine (copied_any p k ⟨sp.toArray⟩ ⟨nm.toArray⟩ ⟨tx.toArray⟩ v4 v5 la ls F w hlt h4 h5 s4 s5 (by omega) (by omega) o4 o5).mono ?_
      rintro e w' ⟨u4, u5, rfl, hG, q4, q5, p4, p5⟩
      exact (RetD.of hG (node_den q4 q5 p4 p5)).ret hlt
    · cases h
  · cases h
end Go.Av
namespace Go.Av
open Go.Proofs Go.RowKit Go.Proofs.YtcogfddcdpgpkaaGreatDoor Go.Maps
theorem cell_one {w : World} {cs : Array Value} {t : TypeId} : ∀ j u, cs.toList[j]? = some u → (w.alloc (.cells cs t)).cell? ((⟨w.heap.size, 0, none⟩ : Addr).add j) = some u := by
  intro j u hj
  have h := (Bk.new w t cs).cell j
  have e : (⟨w.heap.size, 0, none⟩ : Addr).add j = ⟨w.heap.size, j, none⟩ := by
    simp [Addr.add]
    intro h
    exact h.symm
  rw [e, h]
  simpa using hj
theorem zz_of_nw {F : Nat → Nat → Prop} {Z : Nat → Prop} {W W' : World} {v : Value} {d : D} (h : Den0 (nw F W W') W' v d) : Den0 (zf F (ZZ Z W W')) W' v d := h.grow fun b o h => h.imp id fun h => .inr h
theorem zden_ge {F : Nat → Nat → Prop} {Z : Nat → Prop} {w W W' : World} {v : Value} {d : D} (hlt : Lt F w) (hw : Ge w W) (hz : ∀ b, Z b → b < W.heap.size) (hb : Ge W W') (h : Den0 (zf F Z) W v d) : Den0 (zf F Z) W' v d := zden_keep hlt hw (fun b hb => ⟨hz b hb, by simp⟩) (by simp) (grown_none hb) h
section
variable {Z : Nat → Prop} {vN vE vP v : Value} {g : Nat}
theorem nob_N (h : NoB Z v vE vP g) : NoB Z vN vE vP g ∨ v.ownBlock = some g := by
  rcases h with h | h | h
  · exact .inl (.inl h)
  · exact .inr h
  · exact .inl (.inr (.inr h))
theorem nob_E (h : NoB Z vN v vP g) : NoB Z vN vE vP g ∨ v.ownBlock = some g := by
  rcases h with h | h | h | h
  · exact .inl (.inl h)
  · exact .inl (.inr (.inl h))
  · exact .inr h
  · exact .inl (.inr (.inr (.inr h)))
theorem nob_P (h : NoB Z vN vE v g) : NoB Z vN vE vP g ∨ v.ownBlock = some g := by
  rcases h with h | h | h | h
  · exact .inl (.inl h)
  · exact .inl (.inr (.inl h))
  · exact .inl (.inr (.inr (.inl h)))
  · exact .inr h
end
section
variable {Z : Nat → Prop} {vN vE vP v' : Value} {bm bt n size m : Nat} {DD : DataW Unit} {W W' : World} {e : TypeId} {xs : List Value}
theorem ng_N (h : NG Z vN vE vP bm bt n DD W) (ht : bt = bm + 1) (ho : W.ownsRow (bt + 1) e size vN m xs) (hg : W.grownBy W' vN.ownBlock) (loc : v'.ownBlock = vN.ownBlock ∨ v'.ownBlock = some W.heap.size) : NG Z v' vE vP bm bt n DD W' :=
  ng_row h ht ho hg (fun b h => .inr (.inl h)) loc fun g h => nob_N h
theorem ng_E (h : NG Z vN vE vP bm bt n DD W) (ht : bt = bm + 1) (ho : W.ownsRow (bt + 1) e size vE m xs) (hg : W.grownBy W' vE.ownBlock) (loc : v'.ownBlock = vE.ownBlock ∨ v'.ownBlock = some W.heap.size) : NG Z vN v' vP bm bt n DD W' :=
  ng_row h ht ho hg (fun b h => .inr (.inr (.inl h))) loc fun g h => nob_E h
theorem ng_P (h : NG Z vN vE vP bm bt n DD W) (ht : bt = bm + 1) (ho : W.ownsRow (bt + 1) e size vP m xs) (hg : W.grownBy W' vP.ownBlock) (loc : v'.ownBlock = vP.ownBlock ∨ v'.ownBlock = some W.heap.size) : NG Z vN vE v' bm bt n DD W' :=
  ng_row h ht ho hg (fun b h => .inr (.inr (.inr h))) loc fun g h => nob_P h
end
section
variable {P : Program} {ops : Array Oper} {rest : List Oper} {o : Oper} {a : Act} {Q : Exit → Act → World → Prop}
theorem app_own (w0 : World) (hgd : o.guard = none) (s x : Operand) (t : TypeId) (ho : o.op = .call { callee := .builtin .append, args := #[s, x], argTypes := #[t, t] })
    {e : TypeId} {size bytes : Nat} (E : EI P t e size bytes) (base : Nat) (v : Value) (n : Nat) (xs : List Value) (hs : a.eval s = v) (hown : w0.ownsRow base e size v n xs)
    (ad : Addr) (m c : Nat) (news : List Value) (hx : a.eval x = .slice (some ad) m c) (hl : news.length = m * size) (hnews : ∀ (j : Nat) (u : Value), news[j]? = some u → w0.cell? (ad.add j) = some u) (h1 : ∀ u ∈ news, u.oneCell' = true)
    (h63 : n + m ≤ maxLen) (hbytes : (n + m) * bytes ≤ 140737488355328) (hbase : base ≤ w0.heap.size)
    (h : ∀ A' c' w', n + m ≤ c' → w'.ownsRow base e size (.slice A' (n + m) c') (n + m) (xs ++ news) → w0.grownBy w' v.ownBlock → ((Value.slice A' (n + m) c').ownBlock = v.ownBlock ∨ (Value.slice A' (n + m) c').ownBlock = some w0.heap.size) → wpList P ops Q rest (a.put o.dst (.slice A' (n + m) c')) w') :
    wpList P ops Q (o :: rest) a w0 := by
  refine wpList_plain hgd fun K hK => ?_
  obtain ⟨i, z, ht, hi, hz, hsz, hby, hzs, hpos⟩ := E
  obtain ⟨v', w', hr, h2, h3, h4, h5⟩ := run_append_own_at (P := P) w0 base t o.type e i z size bytes ht hi hz hsz hby hzs hpos v n xs hown ad m c news hl hnews h1 h63 hbytes hbase
  obtain ⟨A', c', rfl, hc⟩ := own_form h2
  unfold Oper.wp execOp
  simp only [ho, resolve, invoke, builtin, Sem.run_bind, Sem.run_pure, Result.andThen_ok, List.map_toArray, List.map_cons, List.map_nil, hs, hx, hr]
  exact hK _ _ (h A' c' w' hc h2 h3 h5)
end
theorem elF_len (es : List D) : ∀ k, (elF es k).length ≤ k
  | 0 => Nat.le_refl _
  | k + 1 => by
    have := elF_len es k
    unfold elF
    split
    · simp; omega
    · omega
theorem plF_len (es : List D) : ∀ k, (plF es k).length = k
  | 0 => rfl
  | k + 1 => by simp [plF, plF_len es k]
theorem take_one {es : List D} {k : Nat} (h : k < es.length) : es.take (k + 1) = es.take k ++ [es.getD k .bad] := by
  rw [List.take_add_one, List.getElem?_eq_getElem h]
  simp [List.getD, h]
theorem ge_alloc (w : World) (o : Obj) : Ge w (w.alloc o) := (Below.refl _ w).alloc (Nat.le_refl _) o
theorem ge_drew (w : World) : Ge w w.drew := Ge.drew (Below.refl _ w)
def KeepN (F G : Nat → Nat → Prop) (w : World) (es : List D) : Prop := ∀ W, Ge w W → ∀ p k sp nm la ls tx, D.agg [.int .i64 p, .int .i64 k, .str sp, .str nm, .list la, .list ls, .str tx] ∈ es → Keep F G W la ∧ Keep F G W ls
set_option maxHeartbeats 8000000 in
theorem new_gen (es : List D) (F G : Nat → Nat → Prop) (w : World) (v : Value) (hlt : Lt F w) (hltG : Lt G w) (hkn : KeepN F G w es) (hd : Den0 F w v (.list es)) (hs : ∀ e ∈ es, isNode e = true) (hL : es.length ≤ 10000) (hpr : ∀ e ∈ es, -1 ≤ ndP e ∧ ndP e < 10000)
    (hchk : Calls Tryz.prog 31 #[v] w fun e W' => e = .returned .nilIface ∧ Ge w W') : Calls Tryz.prog 12 #[v] w (RetD G w (.tuple [treeD es, .con .nilIface])) := by
  obtain ⟨a, c, vs, rfl, hc, hvl, hsl, h1, hx⟩ := list_sl hlt hd (isNode_len hs)
  obtain ⟨n, HN⟩ : ∃ n, Hid (n = es.length) := ⟨_, rfl⟩
  rw [← HN.out] at hvl hc hchk ⊢
  have hnL : n ≤ 10000 := by rw [HN.out]; exact hL
  have hmm := @run_makeMap Tryz.prog
  go_enter Tryz.func12, Tryz.ntmps12
  go_wp2_with (go_at_call 31; refine hchk.mono ?_; rintro e w1 ⟨rfl, hb1⟩)
  have HR := nr_start (F := G) (es := es) hb1
  obtain ⟨bm, Hbm⟩ : ∃ z, z = w1.heap.size := ⟨_, rfl⟩
  rw [← Hbm] at HR ⊢
  clear Hbm
  go_loopw [18] (fun v wr => ∃ k : Nat, v = .int .i64 k ∧ k ≤ n ∧ NR G es w bm (bm + 1) k wr) (fun v _ => n - (intOf v).toNat)
  case atStart => exact ⟨0, rfl, Nat.zero_le _, HR⟩
  case round =>
    obtain ⟨k, rfl, hle, hR⟩ := hrel
    obtain ⟨Z, vN, vE, vP, n', DD, hS, hNG, hn', hB, hDm, hat⟩ := hR.ex
    by_cases hk : k = n
    · subst hk
      have HR := Lib.hid hR
      clear hS hNG hB hat hDm hR
      go_wp2_with fail
      go_ret2
      have hR := HR.out
      rw [HN.out] at hR
      obtain ⟨q1, q2⟩ := nr_den hltG hs (by rw [← HN.out]; exact hnL) hpr hR
      refine ⟨_, rfl, q1, fun c ν => .tuple [.pointer (some ⟨bm + 1, 0, none⟩), .nilIface] _ rfl fun i v x hv hx => ?_⟩
      match i with
      | 0 => simp at hv hx; subst hv; subst hx; exact .pure _ _ q2
      | 1 => simp at hv hx; subst hv; subst hx; exact .pure _ _ (.con _ rfl)
      | i + 2 => simp at hv
    · have hlt2 : k < n := by omega
      obtain ⟨b, off, p, kk, sp, nm, la, ls, tx, x4, c4, x5, c5, rfl, hbw, hei, ⟨q0, q1, q2, q3, q4, q5, q6⟩, d4, d5, s4, s5, l4, l5⟩ := node_all hs (by rw [← HN.out]; exact hvl) hsl hx (i := k) (by rw [← HN.out]; exact hlt2)
      have hG := hS.ge
      have r0 := (hG.cell (p := ⟨b, off + k * 7, none⟩) hbw).trans q0
      have r1 := (hG.cell (p := ⟨b, off + k * 7 + 1, none⟩) hbw).trans q1
      have r2 := (hG.cell (p := ⟨b, off + k * 7 + 2, none⟩) hbw).trans q2
      have r3 := (hG.cell (p := ⟨b, off + k * 7 + 3, none⟩) hbw).trans q3
      have r4 := (hG.cell (p := ⟨b, off + k * 7 + 4, none⟩) hbw).trans q4
      have r5 := (hG.cell (p := ⟨b, off + k * 7 + 5, none⟩) hbw).trans q5
      have r6 := (hG.cell (p := ⟨b, off + k * 7 + 6, none⟩) hbw).trans q6
      clear q0 q1 q2 q3 q4 q5 q6
      obtain ⟨B7, HB7⟩ : ∃ z, z = wr.heap.size := ⟨_, rfl⟩
      obtain ⟨W7, HW7⟩ : ∃ z, z = wr.alloc (.cells #[.int .i64 p, .int .i64 kk, .string ⟨sp.toArray⟩, .string ⟨nm.toArray⟩, .slice x4 la.length c4, .slice x5 ls.length c5, .string ⟨tx.toArray⟩] 71) := ⟨_, rfl⟩
      have G7 : Ge wr W7 := by rw [HW7]; exact (Below.refl _ _).alloc (Nat.le_refl _) _
      have S7 := ns_grow hltG hS G7
      have N7 := ng_grow hNG rfl G7
      have T7 : Bk W7 (bm + 1) 83 #[vN, vE, .map (some bm), vP] := hB.below G7 hB.lt
      have L7 : Bk W7 B7 71 #[.int .i64 p, .int .i64 kk, .string ⟨sp.toArray⟩, .string ⟨nm.toArray⟩, .slice x4 la.length c4, .slice x5 ls.length c5, .string ⟨tx.toArray⟩] := by rw [HW7, HB7]; exact Bk.new _ _ _
      have Z7 : ZZ Z wr W7 B7 := .inr ⟨by omega, by rw [HW7, HB7]; simp⟩
      have hdd : es.getD k .bad = .agg [.int .i64 p, .int .i64 kk, .str sp, .str nm, .list la, .list ls, .str tx] := hei
      clear hS hNG hB hR
      generalize ZZ Z wr W7 = Z' at *
      go_wp2_with fail
      rw [← HB7, ← HW7]
      clear HW7 HB7
      have GW := S7.ge
      have HTK : (es.take k).length = k := by rw [List.length_take]; have := HN.out; omega
      clear G7 hG
      have hmem : es.getD k .bad ∈ es := by
        have hk' : k < es.length := by rw [← HN.out]; exact hlt2
        have : es.getD k .bad = es[k] := by simp [List.getD, hk']
        rw [this]
        exact List.getElem_mem hk'
      have hme : D.agg [.int .i64 p, .int .i64 kk, .str sp, .str nm, .list la, .list ls, .str tx] ∈ es := hdd ▸ hmem
      have hpp : -1 ≤ p ∧ p < 10000 := by
        have := hpr _ hmem
        rw [hdd] at this
        exact this
      have hpw : (Lit.int .i64 p).wf = true := WalkArith.wf_i64 (by omega)
      go_cut [18] from 18 to 80 (fun s wx => s = .int .i64 k ∧ R8 G es w bm k B7 #[.int .i64 p, .int .i64 kk, .string ⟨sp.toArray⟩, .string ⟨nm.toArray⟩, .slice x4 la.length c4, .slice x5 ls.length c5, .string ⟨tx.toArray⟩] (k + 1) (elF es k) (plF es k) wx)
      case first =>
        have b0 := T7.cell 0
        have b1 := L7.cell 0; have b2 := L7.cell 1; have b3 := L7.cell 2; have b4 := L7.cell 3; have b5 := L7.cell 4; have b6 := L7.cell 5; have b7 := L7.cell 6
        simp at b0 b1 b2 b3 b4 b5 b6 b7
        have c30 := copied_gen p kk ⟨sp.toArray⟩ ⟨nm.toArray⟩ ⟨tx.toArray⟩ (.slice x4 la.length c4) (.slice x5 ls.length c5) la ls F G
        go_region_law (first
          | (go_simp; go_at_call 32; (refine (c30 _ (lt_ge hlt (by first | exact GW | exact GW.drew)) (lt_ge hltG (by first | exact GW | exact GW.drew)) (fun W hW => (hkn W ((by first | exact GW | exact GW.drew : Ge w _).tr hW) _ _ _ _ _ _ _ hme).1) (fun W hW => (hkn W ((by first | exact GW | exact GW.drew : Ge w _).tr hW) _ _ _ _ _ _ _ hme).2) (den_ge d4 hlt (by first | exact GW | exact GW.drew)) (den_ge d5 hlt (by first | exact GW | exact GW.drew)) s4 s5 (by omega) (by omega) rfl rfl).mono ?_); (rintro e W8 ⟨u4, u5, rfl, hb8, v4, v5, p4, p5⟩); (have S8 := ns_grow hltG (by first | exact S7 | exact ns_ge hltG S7 (ge_drew _)) hb8); (have N8 := ng_grow (by first | exact N7 | exact ng_ge N7 rfl (ge_drew _)) rfl hb8); (have T8 := Bk.below (by first | exact T7 | exact T7.drew) hb8 (by first | exact T7.lt | exact T7.drew.lt)); (have L8 := Bk.below (by first | exact L7 | exact L7.drew) hb8 (by first | exact L7.lt | exact L7.drew.lt)); (have V4 := zz_of_nw (Z := Z') v4); (have V5 := zz_of_nw (Z := Z') v5); (have b8 := T8.cell 0); (simp at b8); (have S8a := ns_ge hltG S8 (ge_alloc W8 (.cells #[.int .i64 p, .int .i64 kk, .string ⟨sp.toArray⟩, .string ⟨nm.toArray⟩, u4, u5, .string ⟨tx.toArray⟩] 71))); (obtain ⟨xs, g1, g2, g3⟩ := S8a.oN); (have h7 : ∀ u ∈ [.int .i64 p, .int .i64 kk, .string ⟨sp.toArray⟩, .string ⟨nm.toArray⟩, u4, u5, .string ⟨tx.toArray⟩], u.oneCell' = true := by (intro u hu; simp only [List.mem_cons, List.not_mem_nil, or_false] at hu; rcases hu with rfl | rfl | rfl | rfl | rfl | rfl | rfl <;> first | rfl | exact p4 | exact p5)); (have hzb := fun b hb => (S8.z b hb).2.1); (have V4a := zden_ge hltG S8.ge hzb (ge_alloc W8 (.cells #[.int .i64 p, .int .i64 kk, .string ⟨sp.toArray⟩, .string ⟨nm.toArray⟩, u4, u5, .string ⟨tx.toArray⟩] 71)) V4); (have V5a := zden_ge hltG S8.ge hzb (ge_alloc W8 (.cells #[.int .i64 p, .int .i64 kk, .string ⟨sp.toArray⟩, .string ⟨nm.toArray⟩, u4, u5, .string ⟨tx.toArray⟩] 71)) V5); (have N8a := ng_ge N8 rfl (ge_alloc W8 (.cells #[.int .i64 p, .int .i64 kk, .string ⟨sp.toArray⟩, .string ⟨nm.toArray⟩, u4, u5, .string ⟨tx.toArray⟩] 71))); (have hxl := g1.1); (have T8a := T8.alloc (.cells #[.int .i64 p, .int .i64 kk, .string ⟨sp.toArray⟩, .string ⟨nm.toArray⟩, u4, u5, .string ⟨tx.toArray⟩] 71)); (have b9 : (W8.alloc (.cells #[.int .i64 p, .int .i64 kk, .string ⟨sp.toArray⟩, .string ⟨nm.toArray⟩, u4, u5, .string ⟨tx.toArray⟩] 71)).cell? ⟨bm + 1, 0, none⟩ = some vN := (T8a.cell 0).trans rfl); (have L8a := L8.alloc (.cells #[.int .i64 p, .int .i64 kk, .string ⟨sp.toArray⟩, .string ⟨nm.toArray⟩, u4, u5, .string ⟨tx.toArray⟩] 71)))
          | ((have e2 : ∀ (j : Nat) (u : Value), ([.int .i64 p, .int .i64 kk, .string ⟨sp.toArray⟩, .string ⟨nm.toArray⟩, u4, u5, .string ⟨tx.toArray⟩] : List Value)[j]? = some u → (W8.alloc (.cells #[.int .i64 p, .int .i64 kk, .string ⟨sp.toArray⟩, .string ⟨nm.toArray⟩, u4, u5, .string ⟨tx.toArray⟩] 71)).cell? ((⟨W8.heap.size, 0, none⟩ : Addr).add j) = some u := cell_one (w := W8) (cs := #[.int .i64 p, .int .i64 kk, .string ⟨sp.toArray⟩, .string ⟨nm.toArray⟩, u4, u5, .string ⟨tx.toArray⟩]) (t := 71)); (have e3 : (es.take k).length + 1 ≤ maxLen := by simp only [maxLen]; omega); (have e4 : ((es.take k).length + 1) * 112 ≤ 140737488355328 := by omega); (have e5 : bm + 1 + 1 ≤ (W8.alloc (.cells #[.int .i64 p, .int .i64 kk, .string ⟨sp.toArray⟩, .string ⟨nm.toArray⟩, u4, u5, .string ⟨tx.toArray⟩] 71)).heap.size := S8a.htw); (have e6 : ([.int .i64 p, .int .i64 kk, .string ⟨sp.toArray⟩, .string ⟨nm.toArray⟩, u4, u5, .string ⟨tx.toArray⟩] : List Value).length = 1 * 7 := rfl); (refine step_own (W8.alloc (.cells #[.int .i64 p, .int .i64 kk, .string ⟨sp.toArray⟩, .string ⟨nm.toArray⟩, u4, u5, .string ⟨tx.toArray⟩] 71)) rfl (.tmp 27) (.tmp 30) 22 rfl ei22 (bm + 1 + 1) vN (es.take k).length xs (by simp [Act.eval, Act.put]) g1 ⟨W8.heap.size, 0, none⟩ 1 1 [.int .i64 p, .int .i64 kk, .string ⟨sp.toArray⟩, .string ⟨nm.toArray⟩, u4, u5, .string ⟨tx.toArray⟩] (by simp [Act.eval, Act.put]) e6 e2 h7 e3 e4 e5 ?_); (intro A9 c9 W9 hc9 ho9 hg9 loc9); (have S9 := ns_node hltG S8a g2 g3 hxl (fun e he => isNode_len hs e (List.mem_of_mem_take he)) V4a V5a p4 p5 hg9 ho9 loc9); (have N9 := ng_N N8a rfl g1 hg9 loc9); (have T9 := T8a.grown hg9 (fun e => by have := (g1.lt _ e.symm).1; omega)); (have L9 := L8a.grown hg9 (fun e => (S8.z B7 (.inl Z7)).2.2.1 e.symm)); (have t9 := T9.cell 0); (have f9 := T9.free 0); (simp at t9)))
        all_goals (
          have hgp := grown_put (grown_refl W9 (some (bm + 1))) (p := ⟨bm + 1, 0, none⟩) rfl (.slice A9 ((es.take k).length + 1) c9)
          have S10 := S9.keep hltG hgp (fun b hb => by injection hb with hb; exact .inl hb.symm)
          have N10 := N9.keep rfl hgp (.inr (.inl rfl))
          have T10 := T9.put 0 (.slice A9 ((es.take k).length + 1) c9)
          have L10 := L9.other (p := ⟨bm + 1, 0, none⟩) (by have := (S8.z B7 (.inl Z7)).1; show B7 ≠ bm + 1; omega) (.slice A9 ((es.take k).length + 1) c9)
          have hcut8 : R8 G es w bm k B7 #[.int .i64 p, .int .i64 kk, .string ⟨sp.toArray⟩, .string ⟨nm.toArray⟩, .slice x4 la.length c4, .slice x5 ls.length c5, .string ⟨tx.toArray⟩] (k + 1) (elF es k) (plF es k) (W9.setCell ⟨bm + 1, 0, none⟩ (.slice A9 ((es.take k).length + 1) c9)) := by
            refine ⟨_, _, _, _, _, _, ?_, N10, hn', T10, L10, .inl Z7, hDm, hat⟩
            rw [take_one (by rw [← HN.out]; exact hlt2), hdd]
            exact S10
          clear hgp S10 N10 T10 L10
          rw [HTK] at hcut8
          go_wp2_with fail
          go_meet
          exact ⟨rfl, hcut8⟩)
      case rest =>
        obtain ⟨rfl, h8⟩ := hcut
        obtain ⟨Z8, vN8, vE8, vP8, n8, D8, S8, N8, hn8, T8, L8, Z7', hDm8, hat8⟩ := h8
        clear S7 N7 T7 L7 Z7 hat hDm hn' GW
        go_wp2_with fail
        go_cut [18] from 18 to 80 (fun s wx => s = .int .i64 k ∧ R8 G es w bm k B7 #[.int .i64 p, .int .i64 kk, .string ⟨sp.toArray⟩, .string ⟨nm.toArray⟩, .slice x4 la.length c4, .slice x5 ls.length c5, .string ⟨tx.toArray⟩] (k + 1) (elF es k) (plF es (k + 1)) wx)
        case first =>
          have b0 := T8.cell 0; have b1 := T8.cell 1; have b2 := T8.cell 2; have b3 := T8.cell 3
          have l0 := L8.cell 0
          simp at b0 b1 b2 b3 l0
          have N8d := ng_ge N8 rfl (ge_drew _)
          have S8d := ns_ge hltG S8 (ge_drew _)
          obtain ⟨v, zs, hrun, hat9, hoi, hzl, hback⟩ := N8d.gr.at kd3 (show Tryz.prog.underlying 80 = some (.map 3 81) by kernel_rfl) (show (zeroValue 81).run Tryz.prog wc.drew = .ok (.slice none 0 0) wc.drew by kernel_rfl) (by unfold maxLen; omega) (keyOf_int_mk (show Tryz.prog.underlying 3 = some (.int .i64) by kernel_rfl) hpw)
          have hzs : zs = rowF es p k := datL_eq hoi ((hat8 p).symm.trans hat9)
          obtain ⟨Av, cv, hv, hcv⟩ := own_form hoi.1
          subst hv
          have g1 := S8.oP.1
          have hpl : (plF es k).length = k := plF_len es k
          have HPL := Lib.hid hpl
          clear hpl
          have S8a := ns_ge hltG S8d (ge_alloc wc.drew (.cells #[.int .i64 zs.length] 3))
          have N8a := ng_ge N8d rfl (ge_alloc wc.drew (.cells #[.int .i64 zs.length] 3))
          have g1 := S8a.oP.1
          have T8a := T8.drew.alloc (.cells #[.int .i64 zs.length] 3)
          have L8a := L8.drew.alloc (.cells #[.int .i64 zs.length] 3)
          have t8 : (wc.drew.alloc (.cells #[.int .i64 zs.length] 3)).cell? ⟨bm + 1, 3, none⟩ = some vP8 := (T8a.cell 3).trans rfl
          have t8b : (wc.alloc (.cells #[.int .i64 zs.length] 3)).cell? ⟨bm + 1, 3, none⟩ = some vP8 := t8
          have e2 : ∀ (j : Nat) (u : Value), ([.int .i64 zs.length] : List Value)[j]? = some u → (wc.drew.alloc (.cells #[.int .i64 zs.length] 3)).cell? ((⟨wc.heap.size, 0, none⟩ : Addr).add j) = some u := cell_one (w := wc.drew) (cs := #[.int .i64 zs.length]) (t := 3)
          have e3 : (plF es k).length + 1 ≤ maxLen := by simp only [maxLen]; rw [HPL.out]; omega
          have e4 : ((plF es k).length + 1) * 8 ≤ 140737488355328 := by rw [HPL.out]; omega
          have e5 : bm + 1 + 1 ≤ (wc.drew.alloc (.cells #[.int .i64 zs.length] 3)).heap.size := S8a.htw
          have h7 : ∀ u ∈ ([.int .i64 zs.length] : List Value), u.oneCell' = true := by intro u hu; simp only [List.mem_cons, List.not_mem_nil, or_false] at hu; subst hu; rfl
          have hzw : (Lit.int .i64 (zs.length : Int)).wf = true := WalkArith.wf_i64 (by omega)
          have HZS := Lib.hid hzs
          clear hzs
          go_region_law (first
            | ((refine step_own (wc.drew.alloc (.cells #[.int .i64 zs.length] 3)) rfl (.tmp 38) (.tmp 47) 81 rfl ei39 (bm + 1 + 1) vP8 (plF es k).length ((plF es k).map (Value.int .i64)) (by simp [Act.eval, Act.put]) g1 ⟨wc.heap.size, 0, none⟩ 1 1 [.int .i64 zs.length] (by simp [Act.eval, Act.put]) rfl e2 h7 e3 e4 e5 ?_); (intro A9 c9 W9 hc9 ho9 hg9 loc9); (have S9 := S8a.appP hltG hg9 loc9 (S8a.oP.appended ho9 hzw)); (have N9 := ng_P N8a rfl g1 hg9 loc9); (have T9 := T8a.grown hg9 (fun e => by have := (g1.lt _ e.symm).1; omega)); (have L9 := L8a.grown hg9 (fun e => (S8.z B7 Z7').2.2.2.2 e.symm)); (have t9 := T9.cell 3); (have f9 := T9.free 3); (simp at t9)))
          all_goals (
            have hgp := grown_put (grown_refl W9 (some (bm + 1))) (p := ⟨bm + 1, 3, none⟩) rfl (.slice A9 ((plF es k).length + 1) c9)
            have S10 := S9.keep hltG hgp (fun b hb => by injection hb with hb; exact .inl hb.symm)
            have N10 := N9.keep rfl hgp (.inr (.inl rfl))
            have T10 := T9.put 3 (.slice A9 ((plF es k).length + 1) c9)
            have L10 := L9.other (p := ⟨bm + 1, 3, none⟩) (by have := (S8.z B7 Z7').1; show B7 ≠ bm + 1; omega) (.slice A9 ((plF es k).length + 1) c9)
            have hcut9 : R8 G es w bm k B7 #[.int .i64 p, .int .i64 kk, .string ⟨sp.toArray⟩, .string ⟨nm.toArray⟩, .slice x4 la.length c4, .slice x5 ls.length c5, .string ⟨tx.toArray⟩] (k + 1) (elF es k) (plF es (k + 1)) (W9.setCell ⟨bm + 1, 3, none⟩ (.slice A9 ((plF es k).length + 1) c9)) := by
              refine ⟨_, _, _, _, _, _, ?_, N10, hn8, T10, L10, Z7', hDm8, hat8⟩
              have hpp : plF es (k + 1) = plF es k ++ [(zs.length : Int)] := by
                rw [plF, hdd, HZS.out]
                rfl
              rw [hpp]
              exact S10
            clear hgp S10 N10 T10 L10
            go_wp2_with fail
            go_meet
            exact ⟨rfl, hcut9⟩)
        case rest =>
          obtain ⟨rfl, h9⟩ := hcut
          obtain ⟨Z9, vN9, vE9, vP9, n9, D9, S9, N9, hn9, T9, L9, Z9', hDm9, hat9⟩ := h9
          clear S8 N8 T8 L8 Z7' hat8 hDm8 hn8
          have l1 := L9.cell 1
          simp at l1
          have hndK : ndK (es.getD k .bad) = kk := by rw [hdd]; rfl
          have hndP : ndP (es.getD k .bad) = p := by rw [hdd]; rfl
          by_cases hkk : kk = 1
          · subst hkk
            have hkw : (Lit.int .i64 (k : Int)).wf = true := WalkArith.wf_i64 (by omega)
            have e2 : ∀ (W : World) (j : Nat) (u : Value), ([.int .i64 k] : List Value)[j]? = some u → (W.alloc (.cells #[.int .i64 k] 3)).cell? ((⟨W.heap.size, 0, none⟩ : Addr).add j) = some u := fun W => cell_one (w := W) (cs := #[.int .i64 k]) (t := 3)
            have h7 : ∀ u ∈ ([.int .i64 k] : List Value), u.oneCell' = true := by intro u hu; simp only [List.mem_cons, List.not_mem_nil, or_false] at hu; subst hu; rfl
            have hel := elF_len es k
            have S9a := ns_ge hltG S9 (ge_alloc wc (.cells #[.int .i64 k] 3))
            have N9a := ng_ge N9 rfl (ge_alloc wc (.cells #[.int .i64 k] 3))
            have g1 := S9a.oE.1
            have T9a := T9.alloc (.cells #[.int .i64 k] 3)
            have L9a := L9.alloc (.cells #[.int .i64 k] 3)
            have b1 := T9.cell 1
            simp at b1
            go_wp2_with (at_builtin; (refine app_own (wc.alloc (.cells #[.int .i64 k] 3)) rfl (.tmp 58) (.tmp 60) 81 rfl ei39 (bm + 1 + 1) vE9 (elF es k).length ((elF es k).map (Value.int .i64)) rfl g1 ⟨wc.heap.size, 0, none⟩ 1 1 [.int .i64 k] rfl rfl (e2 wc) h7 (by simp only [maxLen]; omega) (by omega) S9a.htw ?_); (intro A9 c9 W9 hc9 ho9 hg9 loc9); (have S10 := S9a.appE hltG hg9 loc9 (S9a.oE.appended ho9 hkw)); (have N10 := ng_E N9a rfl g1 hg9 loc9); (have T10 := T9a.grown hg9 (fun e => by have := (g1.lt _ e.symm).1; omega)); (have L10 := L9a.grown hg9 (fun e => (S9.z B7 Z9').2.2.2.1 e.symm)); (have t10 := T10.cell 1); (have f10 := T10.free 1); (simp at t10))
            have hgp := grown_put (grown_refl W9 (some (bm + 1))) (p := ⟨bm + 1, 1, none⟩) rfl (.slice A9 ((elF es k).length + 1) c9)
            have S11 := S10.keep hltG hgp (fun b hb => by injection hb with hb; exact .inl hb.symm)
            have N11 := N10.keep rfl hgp (.inr (.inl rfl))
            have T11 := T10.put 1 (.slice A9 ((elF es k).length + 1) c9)
            have L11 := L10.other (p := ⟨bm + 1, 1, none⟩) (by have := (S9.z B7 Z9').1; show B7 ≠ bm + 1; omega) (.slice A9 ((elF es k).length + 1) c9)
            have T11' : Bk (W9.setCell ⟨bm + 1, 1, none⟩ (.slice A9 ((elF es k).length + 1) c9)) (bm + 1) 83 #[vN9, .slice A9 ((elF es k).length + 1) c9, .map (some bm), vP9] := T11
            clear hgp S10 N10 T10 L10 t10 f10 S9 N9 T9 L9 S9a N9a T9a L9a g1 b1 ho9 hg9 loc9 T11 l1
            generalize W9.setCell ⟨bm + 1, 1, none⟩ (.slice A9 ((elF es k).length + 1) c9) = wd at *
            have b2 := T11'.cell 2
            have l0 := L11.cell 0
            simp at b2 l0
            have Sd := ns_ge hltG (ns_ge hltG S11 (ge_drew _)) (ge_alloc wd.drew (.cells #[.int .i64 k] 3))
            have Nd := ng_ge (ng_ge N11 rfl (ge_drew _)) rfl (ge_alloc wd.drew (.cells #[.int .i64 k] 3))
            have Td := T11'.drew.alloc (.cells #[.int .i64 k] 3)
            have l0d : (wd.alloc (.cells #[.int .i64 k] 3)).cell? ⟨B7, 0, none⟩ = some (.int .i64 p) := ((L11.alloc (.cells #[.int .i64 k] 3)).cell 0).trans rfl
            have b2d : (wd.alloc (.cells #[.int .i64 k] 3)).cell? ⟨bm + 1, 2, none⟩ = some (.map (some bm)) := (Td.cell 2).trans rfl
            obtain ⟨v, zs, hrun, hat10, hoi, hzl, hback⟩ := Nd.gr.at kd3 (show Tryz.prog.underlying 80 = some (.map 3 81) by kernel_rfl) (show (zeroValue 81).run Tryz.prog (wd.drew.alloc (.cells #[.int .i64 k] 3)) = .ok (.slice none 0 0) (wd.drew.alloc (.cells #[.int .i64 k] 3)) by kernel_rfl) (by unfold maxLen; omega) (keyOf_int_mk (show Tryz.prog.underlying 3 = some (.int .i64) by kernel_rfl) hpw)
            have hrun1 : (Instr.lookup 80 (.map (some bm)) (.int .i64 p) false).run Tryz.prog wd.drew = .ok v wd.drew := look_same Nd.gr ((Below.heap_alloc wd.drew _ bm N11.lt).symm) hrun
            have hrun2 : (Instr.lookup 80 (.map (some bm)) (.int .i64 p) false).run Tryz.prog (wd.alloc (.cells #[.int .i64 k] 3)).drew = .ok v (wd.alloc (.cells #[.int .i64 k] 3)).drew := hrun
            have hzs : zs = rowF es p k := datL_eq hoi ((hat9 p).symm.trans hat10)
            have HZS := Lib.hid hzs
            clear hzs
            have HRUN := Lib.hid hrun
            clear hrun
            have g1 := hoi.1
            have e5 : bm + 1 + 1 ≤ (wd.drew.alloc (.cells #[.int .i64 k] 3)).heap.size := Sd.htw
            have e3 : zs.length + 1 ≤ maxLen := by simp only [maxLen]; omega
            have e4 : (zs.length + 1) * 8 ≤ 140737488355328 := by omega
            have e2' := e2 wd.drew
            have hvB : some B7 ≠ v.ownBlock := fun e => look_shun Nd.gr Nd.sh HRUN.out _ e.symm (.inl Z9')
            have hB7 : bm + 1 < B7 := (S11.z B7 Z9').1
            have Ld := L11.drew.alloc (.cells #[.int .i64 k] 3)
            go_region_held_law (fun w' => w'.cell? ⟨bm + 1, 2, none⟩ = some (.map (some bm)) ∧ w'.cell? ⟨B7, 0, none⟩ = some (.int .i64 p)) (first | exact ⟨b2, l0⟩ | exact ⟨b2d, l0d⟩ | exact ⟨t12, l12⟩ | exact ⟨t13, l13⟩) (first
              | ((refine step_own (wd.drew.alloc (.cells #[.int .i64 k] 3)) rfl (.tmp 76) (.tmp 78) 81 rfl ei39 (bm + 1 + 1) v zs.length (zs.map (Value.int .i64)) (by simp [Act.eval, Act.put]) g1 ⟨wd.heap.size, 0, none⟩ 1 1 [.int .i64 k] (by simp [Act.eval, Act.put]) rfl e2' h7 e3 e4 e5 ?_); (intro A12 c12 W12 hc12 ho12 hg12 loc12); (have hap := hoi.appended ho12 hkw); (obtain ⟨W13, hrun13, hgr13, hg13⟩ := hback W12 (.slice A12 (zs.length + 1) c12) (zs ++ [(k : Int)]) hg12 hap (by simp; omega) (loc12.imp id fun h => ⟨_, h, Nat.le_refl _⟩)); (have l12 : W12.cell? ⟨B7, 0, none⟩ = some (.int .i64 p) := ((Ld.grown hg12 hvB).cell 0).trans rfl); (have T12 := Td.grown hg12 (fun e => by have := (g1.lt _ e.symm).1; omega)); (have L12 := Ld.grown hg12 hvB); (have t12 : W12.cell? ⟨bm + 1, 2, none⟩ = some (.map (some bm)) := (T12.cell 2).trans rfl); (have t13 : W13.cell? ⟨bm + 1, 2, none⟩ = some (.map (some bm)) := ((T12.grown hg13 (fun e => by injection e with e; omega)).cell 2).trans rfl); (have l13 : W13.cell? ⟨B7, 0, none⟩ = some (.int .i64 p) := ((L12.grown hg13 (fun e => by injection e with e; omega)).cell 0).trans rfl)))
            all_goals (
              obtain ⟨q1, q2, q3⟩ := group_put hltG Sd Nd HRUN.out hoi hg12 loc12 hrun13 hg13 hgr13 hpw (by unfold maxLen; omega)
              have HR : NR G es w bm (bm + 1) (k + 1) W13 := by
                refine ⟨Z9, vN9, _, vP9, n9 + 1, _, ?_, q2, by omega, q3 _ Td, hDm9.put _ _, fun key => ?_⟩
                · rw [elF, if_pos hndK]
                  exact q1
                · rw [rowF]
                  by_cases hkey : key = p
                  · subst hkey
                    rw [if_pos ⟨hndK, hndP⟩, atKey_put_same hDm9 (show WideAt.IsKeyLit (.int .i64 key) from trivial), hap.datum_pos (by simp), HZS.out]
                    unfold datL
                    rw [if_neg (by simp)]
                  · rw [if_neg (by rw [hndP]; exact fun h => hkey h.2.symm), atKey_put_other (fun e => hkey (by injection e))]
                    exact hat9 key
              clear q1 q2 q3 hap hgr13 hg13 hrun13
              go_wp2_with fail
              exact ⟨⟨k + 1, by simp, hlt2, HR⟩, by simp [intOf]; omega⟩)
          · have hkb : (kk == 1) = false := by simpa using hkk
            have HR : NR G es w bm (bm + 1) (k + 1) wc := by
              refine ⟨Z9, vN9, vE9, vP9, n9, D9, ?_, N9, by omega, T9, hDm9, fun key => ?_⟩
              · rw [elF, if_neg (by rw [hndK]; exact hkk)]
                exact S9
              · rw [rowF, if_neg (by rw [hndK]; exact fun h => hkk h.1)]
                exact hat9 key
            clear S9 N9 T9 L9 Z9' hDm9 hat9 hn9
            go_wp2_with fail
            exact ⟨⟨k + 1, by simp, hlt2, HR⟩, by simp [intOf]; omega⟩
theorem new_any (es : List D) (F : Nat → Nat → Prop) (w : World) (v : Value) (hlt : Lt F w) (hd : Den0 F w v (.list es)) (hs : ∀ e ∈ es, isNode e = true) (hL : es.length ≤ 10000) (hpr : ∀ e ∈ es, -1 ≤ ndP e ∧ ndP e < 10000)
    (hchk : Calls Tryz.prog 31 #[v] w fun e W' => e = .returned .nilIface ∧ Ge w W') : Calls Tryz.prog 12 #[v] w (RetD F w (.tuple [treeD es, .con .nilIface])) :=
  new_gen es F F w v hlt hlt (fun W hW _ _ _ _ _ _ _ _ => ⟨Keep.same (lt_ge hlt hW), Keep.same (lt_ge hlt hW)⟩) hd hs hL hpr hchk
end Go.Av
namespace Go.Av
open Go.Proofs Go.RowKit Go.Proofs.YtcogfddcdpgpkaaGreatDoor
def rangeOk (es : List D) : Bool := es.all fun e => decide (-1 ≤ ndP e) && decide (ndP e < 10000)
theorem rangeOk_inv {es : List D} (h : rangeOk es = true) : ∀ e ∈ es, -1 ≤ ndP e ∧ ndP e < 10000 := by
  unfold rangeOk at h
  simpa [List.all_eq_true] using h
noncomputable def extNew (chk : List D → Bool) : Call := fun f args pbs => match f, args, pbs with
  | 12, [.list es], [] => if nodesOk es = true ∧ rangeOk es = true ∧ chk es = true then some (.tuple [treeD es, .con .nilIface], [], []) else none
  | _, _, _ => none
def ChkOK (ext : Call) (chk : List D → Bool) : Prop := ∀ es, nodesOk es = true → chk es = true → ∃ N r, aev Tryz.prog ext N 31 [.list es] [] = some (.con .nilIface, r, [])
theorem den_con {c : Nat → Nat} {ν : Nat → Nat → Nat} {F : Nat → Nat → Prop} {w : World} {v u : Value} (h : Den c ν F w v (.con u)) : v = u := by
  cases h with
  | pure _ _ h => cases h; rfl
theorem extNew_ok {ext : Call} {chk : List D → Bool} (hext : CallOK Tryz.prog ext) (hchk : ChkOK ext chk) : CallOK Tryz.prog (extNew chk) := by
  intro f args pbs d r pbs' h
  unfold extNew at h
  split at h
  · rename_i es
    split at h
    · rename_i hc
      obtain ⟨h1, h2, h3⟩ := hc
      obtain ⟨hs, hl⟩ := nodesOk_inv h1
      simp only [Option.some.injEq, Prod.mk.injEq] at h
      obtain ⟨rfl, rfl, rfl⟩ := h
      obtain ⟨N, r, ev⟩ := hchk es h1 h3
      refine ⟨⟨_, Tryz.func12, rfl⟩, fun vals w F μ hv hd hb hi hlt hg => ?_⟩
      obtain ⟨v, rfl, h0⟩ := one_den hv hd
      refine (new_any es F w v hlt (den_list0 h0) hs (by omega) (rangeOk_inv h2) ?_).mono fun e w' h => h.ret hlt
      obtain ⟨_, hcall⟩ := aev_sound fineS hext N 31 [.list es] [] _ _ _ ev
      refine (hcall [v] w F μ rfl hd hb hi hlt hg).mono ?_
      intro e w' hr
      obtain ⟨u, rfl, hG, hu⟩ := hr.retD
      rw [den_con (hu (fun _ => 0) fun _ _ => 0)]
      exact ⟨rfl, hG⟩
    · cases h
  · cases h
end Go.Av
namespace Go.Av
open Go.Proofs Go.RowKit Go.Proofs.YtcogfddcdpgpkaaGreatDoor
def byI : List D → Option (List Int)
  | [] => some []
  | .int .u8 n :: r => if 0 ≤ n ∧ n < 256 then (byI r).map (n :: ·) else none
  | _ => none
theorem byI_eq2 : ∀ {es : List D} {zs : List Int}, byI es = some zs → es = zs.map (D.int .u8) ∧ BytesOK zs
  | [], zs, h => by
    simp [byI] at h; subst h
    exact ⟨rfl, fun i hi => by simp at hi⟩
  | .int .u8 n :: r, zs, h => by
    simp only [byI] at h
    split at h
    · rename_i hn
      obtain ⟨ys, hy, rfl⟩ := Option.map_eq_some_iff.1 h
      obtain ⟨h1, h2⟩ := byI_eq2 hy
      refine ⟨by rw [h1]; rfl, fun i hi => ?_⟩
      cases i with
      | zero => exact hn
      | succ i => exact h2 i (by simpa using hi)
    · cases h
theorem flat_ints (k : IntKind) (zs : List Int) : flat (zs.map (D.int k)) = zs.map (D.int k) := by
  unfold flat
  rw [List.flatMap_map]
  induction zs with
  | nil => rfl
  | cons a r ih => rw [List.flatMap_cons, ih]; rfl
theorem sl_of_den {F : Nat → Nat → Prop} {w : World} {v : Value} {k : IntKind} {zs : List Int} (hd : Den0 F w v (.list (zs.map (D.int k)))) (hlt : Lt F w) : ∃ a c, v = .slice a zs.length c ∧ zs.length ≤ c ∧ Sl w w.heap.size a (zs.map (Value.int k)) := by
  generalize he : zs.map (D.int k) = es at hd
  cases hd with
  | list a n c sz es vs h1 h2 h3 h4 h5 h6 h7 =>
    subst he
    rw [List.length_map] at h1
    subst h1
    refine ⟨a, c, rfl, h2, fun hne => ?_⟩
    have hz : zs ≠ [] := by rintro rfl; exact hne rfl
    have hsz : sz = 1 := by
      obtain ⟨z, r, rfl⟩ := List.exists_cons_of_ne_nil hz
      have := h4 (.int k z) (by simp)
      simpa [dcells] using this.symm
    subst hsz
    rw [flat_ints] at h7
    rw [Nat.mul_one] at h5
    have hvs : vs = zs.map (Value.int k) := by
      apply List.ext_getElem?
      intro i
      by_cases hi : i < zs.length
      · have hv : vs[i]? = some vs[i] := List.getElem?_eq_getElem (by omega)
        have hx : (zs.map (D.int k))[i]? = some (.int k zs[i]) := by simp [hi]
        have := h7 i _ _ hv hx
        rw [hv]
        generalize vs[i] = u at this
        cases this
        simp [hi]
      · rw [List.getElem?_eq_none (by omega), List.getElem?_eq_none (by simp; omega)]
    rcases h6 with h6 | ⟨b, off, ha, hcell⟩
    · rw [h6] at h5
      exact absurd (List.length_eq_zero_iff.1 h5.symm) hz
    · have hpos : 0 < vs.length := by rw [h5]; exact List.length_pos_iff.2 hz
      have h0 := hcell 0 vs[0] (List.getElem?_eq_getElem hpos)
      refine ⟨b, off, ha, hlt _ _ h0.1, fun i hi => ?_⟩
      have := hcell i _ (by rw [hvs]; exact List.getElem?_eq_getElem hi)
      exact this.2.1
theorem good_calls {es : List D} {zs : List Int} (hb : byI es = some zs) (hm : zs.length ≤ 140737488355328) {F : Nat → Nat → Prop} {w : World} {v : Value} (hlt : Lt F w) (hd : Den0 F w v (.list es)) : Calls Tryz.prog 95 #[v] w (RetD F w (.bool (rGood zs))) := by
  obtain ⟨rfl, hz⟩ := byI_eq2 hb
  obtain ⟨a, c, rfl, hc, hs⟩ := sl_of_den hd hlt
  refine (rGood_any w w.heap.size a zs.length c zs (Nat.le_refl _) hz rfl hc (by omega) hs).mono ?_
  rintro e w' ⟨rfl, hb⟩
  exact RetD.of hb (.bool _)
def faultD (k a : Int) : D := .iface 156 (.fix (.agg [.int .i64 k, .int .i64 a, .con .nilIface]) 0)
theorem fault_den {F : Nat → Nat → Prop} {w : World} {b : Nat} {k a : Int} {t : TypeId} {fr : Nat × Nat} (h : w.heap[b]? = some (.cells #[.int .i64 k, .int .i64 a, .nilIface] t fr)) (hF : ∀ o, F b o) : Den0 F w (.iface 156 (.pointer (some ⟨b, 0, none⟩))) (faultD k a) := by
  refine .iface _ _ _ (Den0.fix (.agg [.int .i64 k, .int .i64 a, .con .nilIface]) b 0 0 [.int .i64 k, .int .i64 a, .nilIface] rfl (fun i v hv => ⟨hF _, ?_, ?_⟩) (fun i v x hv hx => ?_))
  · unfold World.cell?
    simp only [h, Nat.zero_add]
    match i with
    | 0 => simp at hv; subst hv; rfl
    | 1 => simp at hv; subst hv; rfl
    | 2 => simp at hv; subst hv; rfl
    | i + 3 => simp at hv
  · match i with
    | 0 => simp at hv; subst hv; rfl
    | 1 => simp at hv; subst hv; rfl
    | 2 => simp at hv; subst hv; rfl
    | i + 3 => simp at hv
  · match i with
    | 0 => simp [dcells] at hv hx; subst hv; subst hx; exact .int _ _
    | 1 => simp [dcells] at hv hx; subst hv; subst hx; exact .int _ _
    | 2 => simp [dcells] at hv hx; subst hv; subst hx; exact .con _ rfl
    | i + 3 => simp at hv
theorem fail_any (k a : Int) (F : Nat → Nat → Prop) (w : World) : Calls Tryz.prog 57 #[.int .i64 k, .int .i64 a] w (RetD F w (faultD k a)) := by
  have key : Calls Tryz.prog 57 #[.int .i64 k, .int .i64 a] w fun e w' => e = .returned (.iface 156 (.pointer (some ⟨w.heap.size, 0, none⟩))) ∧ w' = w.alloc (.cells #[.int .i64 k, .int .i64 a, .nilIface] 158) := by
    go_enter Tryz.func57, Tryz.ntmps57
    go_wp2
    go_ret
    exact ⟨rfl, rfl⟩
  refine key.mono ?_
  rintro e w' ⟨rfl, rfl⟩
  refine RetD.of ((Below.refl _ w).alloc (Nat.le_refl _) _) (fault_den (t := 158) (fr := (0, 0)) (Bk.new w 158 #[.int .i64 k, .int .i64 a, .nilIface]) fun o => .inr ⟨Nat.le_refl _, by simp⟩)
end Go.Av
namespace Go.Av
open Go.Proofs Go.RowKit Go.Proofs.YtcogfddcdpgpkaaGreatDoor
end Go.Av
namespace Go.Av
open Go.Proofs Go.RowKit Go.Proofs.YtcogfddcdpgpkaaGreatDoor
end Go.Av
namespace Go.Av
open Go.Proofs
def idxB (c : UInt8) : Nat → List UInt8 → Int
  | _, [] => -1
  | k, x :: r => if x = c then (k : Int) else idxB c (k + 1) r
def preB : List UInt8 → List UInt8 → Bool
  | [], _ => true
  | _ :: _, [] => false
  | a :: p, b :: s => a == b && preB p s
def hasB (t : List UInt8) : List UInt8 → Bool
  | [] => preB t []
  | x :: r => preB t (x :: r) || hasB t r
def blankB (x : UInt8) : Bool := x == 32 || x == 9 || x == 10 || x == 13 || x == 12
def partsB : List UInt8 → List UInt8 → List (List UInt8)
  | [], p => if p = [] then [] else [p]
  | x :: r, p => if blankB x then (if p = [] then partsB r [] else p :: partsB r []) else partsB r (p ++ [x])
def ext6 : Call := fun f args pbs => match f, args, pbs with
  | 166, [.str s, .int .u8 c], [] => some (.int .i64 (idxB (UInt8.ofNat c.toNat) 0 s), [], [])
  | 137, [.str s, .str t], [] => if s.length < 4294967281 then some (.bool (hasB t s), [], []) else none
  | 164, [.str s, .func (.func 165) [] []], [] => if s.length ≤ 4294967296 then some (.list ((partsB s []).map .str), [], []) else none
  | _, _, _ => none
end Go.Av
namespace Go.Av
open Go.Proofs Go.RowKit Go.Proofs.YtcogfddcdpgpkaaGreatDoor
def extF : Call := fun f args pbs => match f, args, pbs with
  | 57, [.int .i64 k, .int .i64 a], [] => some (faultD k a, [], [])
  | 95, [.list es], [] => (match byI es with | some zs => if zs.length ≤ 140737488355328 then some (.bool (rGood zs), [], []) else none | none => none)
  | _, _, _ => none
theorem extF_ok : CallOK Tryz.prog extF := by
  intro f args pbs d r pbs' h
  unfold extF at h
  split at h
  · rename_i k a
    simp only [Option.some.injEq, Prod.mk.injEq] at h
    obtain ⟨rfl, rfl, rfl⟩ := h
    refine ⟨⟨_, Tryz.func57, rfl⟩, fun vals w F μ hv hd hb _ hlt hg => ?_⟩
    match vals, hv with
    | [v1, v2], _ =>
      have d1 := (hd 0 v1 _ rfl rfl).int_
      have d2 := (hd 1 v2 _ rfl rfl).int_
      subst d1 d2
      exact (fail_any k a F w).mono fun e w' h => h.ret hlt
  · rename_i es
    split at h
    · rename_i zs hz
      split at h
      · rename_i hc
        simp only [Option.some.injEq, Prod.mk.injEq] at h
        obtain ⟨rfl, rfl, rfl⟩ := h
        refine ⟨⟨_, Tryz.func95, rfl⟩, fun vals w F μ hv hd hb _ hlt hg => ?_⟩
        obtain ⟨v, rfl, h0⟩ := one_den hv hd
        exact (good_calls hz hc hlt (den_list0 h0)).mono fun e w' h => h.ret hlt
      · cases h
    · cases h
  · cases h
class Rk where
  r : Call
variable [Rk]
def extR : Call := fun f args pbs => match f with
  | 45 => Rk.r 45 args pbs
  | 48 => Rk.r 48 args pbs
  | 8 => Rk.r 8 args pbs
  | _ => ext6 f args pbs
noncomputable def ext11b (chk : List D → Bool) : Call := orExt extF (orExt extCl (orExt (extNew chk) extR))
theorem ext_in {chk : List D → Bool} {f : FuncId} {args : List D} {pbs : List Bx} {r : D × List Room × List Bx} (h : extF f args pbs = some r) : ext11b chk f args pbs = some r := by
  unfold ext11b orExt
  rw [h]
theorem ext_cl {chk : List D → Bool} {f : FuncId} {args : List D} {pbs : List Bx} {r : D × List Room × List Bx} (h0 : extF f args pbs = none) (h : extCl f args pbs = some r) : ext11b chk f args pbs = some r := by
  unfold ext11b
  unfold orExt
  rw [h0, h]
theorem ext_new1 {chk : List D → Bool} {f : FuncId} {args : List D} {pbs : List Bx} {r : D × List Room × List Bx} (h0 : extF f args pbs = none) (h1 : extCl f args pbs = none) (h : extNew chk f args pbs = some r) : ext11b chk f args pbs = some r := by
  unfold ext11b
  unfold orExt
  rw [h0, h1, h]
theorem ext_r {chk : List D → Bool} {f : FuncId} {args : List D} {pbs : List Bx} {r : D × List Room × List Bx} (h0 : extF f args pbs = none) (h1 : extCl f args pbs = none) (h2 : extNew chk f args pbs = none) (h : extR f args pbs = some r) : ext11b chk f args pbs = some r := by
  unfold ext11b
  unfold orExt
  rw [h0, h1, h2, h]
theorem ext_6 {chk : List D → Bool} {f : FuncId} {args : List D} {pbs : List Bx} {r : D × List Room × List Bx} (hf : f = 166 ∨ f = 137 ∨ f = 164) (h : ext6 f args pbs = some r) : ext11b chk f args pbs = some r := by
  rcases hf with rfl | rfl | rfl <;> exact ext_r rfl rfl rfl h
theorem ext_row {chk : List D → Bool} {args : List D} {pbs : List Bx} {r : D × List Room × List Bx} (h : Rk.r 45 args pbs = some r) : ext11b chk 45 args pbs = some r := ext_r rfl rfl rfl h
theorem ext_sp8 {chk : List D → Bool} {args : List D} {pbs : List Bx} {r : D × List Room × List Bx} (h : Rk.r 8 args pbs = some r) : ext11b chk 8 args pbs = some r := ext_r rfl rfl rfl h
end Go.Av
