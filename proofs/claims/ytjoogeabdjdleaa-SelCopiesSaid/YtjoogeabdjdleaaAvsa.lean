/- The evaluator, in one text: over any program; no conditions but those that each law names. -/
import Derived.RangeFuncNested
import Derived.RangeFuncBound
import Derived.RangeFuncCalls
import Derived.RangeFuncLeaves
import Derived.RangeFuncFrom
import Derived.Shelf.Abstract
import Derived.Shelf.RegionOpen
import Derived.WalkKit
import Derived.OwnWalkIn
import Derived.TacticsInMore
import Derived.LoopNIn
import Derived.LoopIn
import Derived.Test.YtjoogeabdjdleaaProg
import Derived.Test.YtjoogeabdjdleaaAvb
import Derived.KernelRfl
import Derived.WalkSpells
import Derived.WalkLawsBesides
import Derived.Lib.Hide
import Derived.Test.YtjoogeabdjdleaaChecked
import Derived.Deep.QuietTactic
set_option linter.unusedSimpArgs false
set_option linter.unusedVariables false
set_option linter.unusedSectionVars false
namespace Go.Proofs.Ytjoogeabdjdleaa
open Go.Proofs Go.RowKit Go.Shelf
attribute [local go_sem] Oper.semAt_some
structure Sm where
  kind : Int
  ns : Int
  pre : ByteArray
  nm : ByteArray
  op : Int
  tx : ByteArray
  fold : Bool
  mark : Int
  a : Int
  b : Int
  of_ : Option Addr
  n : Nat
  c : Nat
def Sm.cells (s : Sm) : List Value := [.int .i64 s.kind, .int .i64 s.ns, .string s.pre, .string s.nm, .int .i64 s.op, .string s.tx, .bool s.fold, .int .i64 s.mark, .int .i64 s.a, .int .i64 s.b, .slice s.of_ s.n s.c]
def Sm.val (s : Sm) : Value := .agg #[.int .i64 s.kind, .int .i64 s.ns, .string s.pre, .string s.nm, .int .i64 s.op, .string s.tx, .bool s.fold, .int .i64 s.mark, .int .i64 s.a, .int .i64 s.b, .slice s.of_ s.n s.c]
def upto (N : Nat) (k : Nat) : List (Fin N) := (List.finRange N).take k
theorem upto_succ {N k : Nat} (h : k < N) : upto N (k + 1) = upto N k ++ [⟨k, h⟩] := by
  unfold upto
  rw [List.take_succ_eq_append_getElem (by simpa using h)]
  simp
theorem upto_length {N k : Nat} (h : k ≤ N) : (upto N k).length = k := by
  unfold upto
  simp [h]
theorem upto_all (N : Nat) : upto N N = List.finRange N := by
  unfold upto
  rw [List.take_of_length_le (by simp)]
set_option maxRecDepth 100000 in
set_option maxHeartbeats 4000000 in
theorem simples1_in (F : Fence) (n : Nat) (h21 : F.fn 22) (hro : F.round = none) (hn : 1 ≤ n) (l Bs n₀ N : Nat) (cs : Fin N → Sm) (J Jx : List (Fin N) → World → Prop)
    (b1 o1 c1 b2 o2 c2 b3 o3 c3 : Nat) (comb : Int) (hb2 : b2 < n₀) (hb3 : b3 < n₀) (hN : N ≤ 1000000) (hN3 : N ≤ c3)
    (W : World) (hJ : AbidesFrom W.heap.size J)
    (hY : ∀ pre x W, J pre W → pre.length < N → YieldAt F (n - 1) Try.prog l #[(cs x).val] W fun e W' =>
      (e = .returned (.bool true) ∧ J (pre ++ [x]) W' ∧ Below n₀ W W') ∨ (e = .returned (.bool false) ∧ Jx (pre ++ [x]) W'))
    (hn₀ : n₀ ≤ W.heap.size)
    (hBs : W.cell? ⟨Bs, 0, none⟩ = some (.slice (some ⟨b1, o1, none⟩) 1 c1)) (hc1 : W.cell? ⟨b1, o1, none⟩ = some (.slice (some ⟨b2, o2, none⟩) 1 c2))
    (hc2 : W.cell? ⟨b2, o2, none⟩ = some (.int .i64 comb)) (hc3 : W.cell? ⟨b2, o2 + 1, none⟩ = some (.slice (some ⟨b3, o3, none⟩) N c3))
    (hc4 : ∀ (i : Fin N) (j : Nat), j < 11 → W.cell? ⟨b3, o3 + i.1 * 11 + j, none⟩ = (cs i).cells[j]?) (h0 : J [] W) :
    CallsIn F n Try.prog 22 #[.func (.yield l) #[] #[], .pointer (some ⟨Bs, 0, none⟩)] W fun e W' => (∃ v, e = .returned v) ∧
      ((∃ ys, ys = List.finRange N ∧ J ys W') ∨ (∃ pre, (∃ k, k ≤ N ∧ pre = upto N k) ∧ Jx pre W')) := by
  refine callsIn_of_wp Try.func22 rfl h21 ?_ hro
  simp only [Try.ntmps22, List.size_toArray, List.length_cons, List.length_nil, Nat.reduceAdd, Nat.reduceSub, Array.replicate_succ, Array.replicate_zero, List.push_toArray, List.append_toArray, List.nil_append, List.cons_append]
  gi_wp2
  gi_loopw [11] (fun i wr => (i = .int .i64 0 ∧ wr = W) ∨ (i = .int .i64 1 ∧ J (List.finRange N) wr))
    (fun i _ => 1 - (intOf i).toNat)
  case atStart => exact .inl ⟨rfl, rfl⟩
  case round =>
    rcases hrel with ⟨rfl, hwr⟩ | ⟨rfl, hJs⟩
    · have hJs : J [] wr := by rw [hwr]; exact h0
      have hnx : Below n₀ W wr := by rw [hwr]; exact Below.refl _ _
      have hx1 : wr.cell? ⟨b1, o1, none⟩ = some (.slice (some ⟨b2, o2, none⟩) 1 c2) := by rw [hwr]; exact hc1
      have hsz : W.heap.size ≤ wr.heap.size := by rw [hwr]; exact Nat.le_refl _
      clear hwr
      gi_wp2
      gi_loopw [18] (fun i wm => (i = .int .i64 0 ∧ J [] wm ∧ Below n₀ W wm ∧ W.heap.size ≤ wm.heap.size) ∨ (i = .int .i64 1 ∧ J (List.finRange N) wm))
        (fun i _ => 1 - (intOf i).toNat)
      case atStart => exact .inl ⟨rfl, hJ _ _ _ none hJs (World.grownBy_alloc _ _ none) (fun r e => by cases e), hnx.alloc (by omega) _, by simp; omega⟩
      case round =>
        rcases hrel with ⟨rfl, hJm, hnm, hsm⟩ | ⟨rfl, hJm⟩
        · have hx2 : wr.cell? ⟨b2, o2, none⟩ = some (.int .i64 comb) := (hnm.cell (p := ⟨b2, o2, none⟩) hb2).trans hc2
          have hx3 : wr.cell? ⟨b2, o2 + 1, none⟩ = some (.slice (some ⟨b3, o3, none⟩) N c3) := (hnm.cell (p := ⟨b2, o2 + 1, none⟩) hb2).trans hc3
          gi_wp2
          gi_loopw [25] (fun i wi => ∃ k : Nat, k ≤ N ∧ i = .int .i64 k ∧ J (upto N k) wi ∧ Below n₀ W wi ∧ W.heap.size ≤ wi.heap.size)
            (fun i _ => N - (intOf i).toNat)
          case atStart => exact ⟨0, Nat.zero_le _, rfl, hJ _ _ _ none hJm (World.grownBy_alloc _ _ none) (fun r e => by cases e), hnm.alloc (by omega) _, by simp; omega⟩
          case round =>
            obtain ⟨k, hk, rfl, hJi, hni, hsi⟩ := hrel
            by_cases hlt : k < N
            · have hcx : ∀ j, j < 11 → wr.cell? ⟨b3, o3 + k * 11 + j, none⟩ = (cs ⟨k, hlt⟩).cells[j]? := fun j hj => (hni.cell (p := ⟨b3, o3 + k * 11 + j, none⟩) hb3).trans (hc4 ⟨k, hlt⟩ j hj)
              obtain ⟨s, hs⟩ : ∃ s, s = cs ⟨k, hlt⟩ := ⟨_, rfl⟩
              have hfin := hlt
              rw [← hs] at hcx
              have x0 : wr.cell? ⟨b3, o3 + k * 11, none⟩ = some (.int .i64 s.kind) := (hcx 0 (by decide)).trans rfl
              have x1 : wr.cell? ⟨b3, o3 + k * 11 + 1, none⟩ = some (.int .i64 s.ns) := (hcx 1 (by decide)).trans rfl
              have x2 : wr.cell? ⟨b3, o3 + k * 11 + 2, none⟩ = some (.string s.pre) := (hcx 2 (by decide)).trans rfl
              have x3 : wr.cell? ⟨b3, o3 + k * 11 + 3, none⟩ = some (.string s.nm) := (hcx 3 (by decide)).trans rfl
              have x4 : wr.cell? ⟨b3, o3 + k * 11 + 4, none⟩ = some (.int .i64 s.op) := (hcx 4 (by decide)).trans rfl
              have x5 : wr.cell? ⟨b3, o3 + k * 11 + 5, none⟩ = some (.string s.tx) := (hcx 5 (by decide)).trans rfl
              have x6 : wr.cell? ⟨b3, o3 + k * 11 + 6, none⟩ = some (.bool s.fold) := (hcx 6 (by decide)).trans rfl
              have x7 : wr.cell? ⟨b3, o3 + k * 11 + 7, none⟩ = some (.int .i64 s.mark) := (hcx 7 (by decide)).trans rfl
              have x8 : wr.cell? ⟨b3, o3 + k * 11 + 8, none⟩ = some (.int .i64 s.a) := (hcx 8 (by decide)).trans rfl
              have x9 : wr.cell? ⟨b3, o3 + k * 11 + 9, none⟩ = some (.int .i64 s.b) := (hcx 9 (by decide)).trans rfl
              have x10 : wr.cell? ⟨b3, o3 + k * 11 + 10, none⟩ = some (.slice s.of_ s.n s.c) := (hcx 10 (by decide)).trans rfl
              obtain ⟨fn, tmps, assign, body, hy, hR⟩ := hY (upto N k) ⟨k, hlt⟩ (wr.alloc (.cells #[.int .i64 s.kind, .int .i64 s.ns, .string s.pre, .string s.nm, .int .i64 s.op, .string s.tx, .bool s.fold, .int .i64 s.mark, .int .i64 s.a, .int .i64 s.b, .slice s.of_ s.n s.c] 37)) (hJ _ _ _ none hJi (World.grownBy_alloc _ _ none) (fun r e => by cases e)) (by rw [upto_length hk]; exact hlt)
              rw [← hs] at hy
              dsimp only [Sm.val] at hy
              clear hcx
              clear hs
              gi_wp2
              refine hR.mono ?_
              rintro e W3 (⟨rfl, hJ3, hk3⟩ | ⟨rfl, hJx3⟩)
              · gi_wp2
                go_roundw
                case rel => exact ⟨k + 1, by omega, by simp, by rw [upto_succ hlt]; exact hJ3, (hni.alloc (by omega) _).trans hk3, by have := hk3.size; simp at this; omega⟩
                case measure => simp [intOf]; omega
              · gi_wp2
                refine bodyPost_ret (results_none rfl _ _ _) rfl ?_
                exact ⟨⟨_, rfl⟩, .inr ⟨_, ⟨k + 1, by omega, (upto_succ hlt).symm⟩, hJx3⟩⟩
            · obtain rfl : k = N := by omega
              gi_wp2
              go_roundw
              case rel => exact .inr ⟨by simp, by rw [← upto_all]; exact hJi⟩
              case measure => simp [intOf]
        · gi_wp2
          go_roundw
          case rel => exact .inr ⟨by simp, hJm⟩
          case measure => simp [intOf]
    · gi_wp2
      go_end0
      exact ⟨⟨_, rfl⟩, .inl ⟨_, rfl, hJs⟩⟩
theorem simples_stops (F : Fence) (n : Nat) (h21 : F.fn 22) (hro : F.round = none) (hn : 1 ≤ n) (Bs n₀ N : Nat) (cs : Fin N → Sm) (b1 o1 c1 b2 o2 c2 b3 o3 c3 : Nat) (comb : Int) (hb2 : b2 < n₀) (hb3 : b3 < n₀) (hN : N ≤ 1000000) (hN3 : N ≤ c3)
    (w : World) (hB1 : b1 < w.heap.size) (hBl : Bs < w.heap.size) (hn₀ : n₀ ≤ w.heap.size)
    (hBs : w.cell? ⟨Bs, 0, none⟩ = some (.slice (some ⟨b1, o1, none⟩) 1 c1)) (hc1 : w.cell? ⟨b1, o1, none⟩ = some (.slice (some ⟨b2, o2, none⟩) 1 c2))
    (hc2 : w.cell? ⟨b2, o2, none⟩ = some (.int .i64 comb)) (hc3 : w.cell? ⟨b2, o2 + 1, none⟩ = some (.slice (some ⟨b3, o3, none⟩) N c3))
    (hc4 : ∀ (i : Fin N) (j : Nat), j < 11 → w.cell? ⟨b3, o3 + i.1 * 11 + j, none⟩ = (cs i).cells[j]?) :
    SeqStopsK F n Try.prog 22 #[.pointer (some ⟨Bs, 0, none⟩)] (fun x : Fin N => #[(cs x).val]) (Below n₀) (fun ys => ys = List.finRange N) (fun pre => ∃ k, k ≤ N ∧ pre = upto N k) N w := fun l J Jx W hW hJ _ hY h0 =>
  simples1_in F n h21 hro hn l Bs n₀ N cs J Jx b1 o1 c1 b2 o2 c2 b3 o3 c3 comb hb2 hb3 hN hN3 W hJ hY (Nat.le_trans hn₀ hW.size)
    ((hW.cell (p := ⟨Bs, 0, none⟩) hBl).trans hBs) ((hW.cell (p := ⟨b1, o1, none⟩) hB1).trans hc1) ((hW.cell (p := ⟨b2, o2, none⟩) (Nat.lt_of_lt_of_le hb2 hn₀)).trans hc2)
    ((hW.cell (p := ⟨b2, o2 + 1, none⟩) (Nat.lt_of_lt_of_le hb2 hn₀)).trans hc3) (fun i j hj => (hW.cell (p := ⟨b3, o3 + i.1 * 11 + j, none⟩) (Nat.lt_of_lt_of_le hb3 hn₀)).trans (hc4 i j hj)) h0
end Go.Proofs.Ytjoogeabdjdleaa
namespace Go.Proofs.Ytjoogeabdjdleaa
open Go.Proofs Go.RowKit Go.Shelf
attribute [local go_sem] Oper.semAt_some
def BoxR (W : World) (B : Nat) (t : TypeId) (C : Array Value) : Prop := W.heap[B]? = some (.cells C t (0, 0))
theorem BoxR.lt {W : World} {B : Nat} {t : TypeId} {C : Array Value} (h : BoxR W B t C) : B < W.heap.size := (Array.getElem?_eq_some_iff.1 h).1
theorem BoxR.cell {W : World} {B : Nat} {t : TypeId} {C : Array Value} (h : BoxR W B t C) (j : Nat) : W.cell? ⟨B, j, none⟩ = C[j]? := by simp [World.cell?, show W.heap[B]? = _ from h]
theorem BoxR.frozen {W : World} {B : Nat} {t : TypeId} {C : Array Value} (h : BoxR W B t C) (j : Nat) : W.frozen? ⟨B, j, none⟩ = false := by simp [World.frozen?, show W.heap[B]? = _ from h]
theorem BoxR.new (W : World) (t : TypeId) (C : Array Value) : BoxR (W.alloc (.cells C t)) W.heap.size t C := World.alloc_heap_new W _
theorem BoxR.kept {W W' : World} {row : Option Nat} {B : Nat} {t : TypeId} {C : Array Value} (h : BoxR W B t C) (hg : W.grownBy W' row) (hne : some B ≠ row) : BoxR W' B t C := (hg.block B h.lt hne).trans h
theorem BoxR.alloc {W : World} {B : Nat} {t : TypeId} {C : Array Value} (h : BoxR W B t C) (o : Obj) : BoxR (W.alloc o) B t C := h.kept (World.grownBy_alloc W o none) (by simp)
theorem BoxR.below {W W' : World} {B n : Nat} {t : TypeId} {C : Array Value} (h : BoxR W B t C) (hb : Below n W W') (hn : B < n) : BoxR W' B t C := (hb.block B hn).trans h
theorem boxR_own {β : Type} (B : Nat) (t : TypeId) (f : β → Array Value) : Own (fun s W => BoxR W B t (f s)) := fun s X Y row hs hg hrow =>
  hs.kept hg (fun e' => by obtain ⟨o, ho, hc⟩ := hrow B e'.symm; rw [show X.heap[B]? = _ from hs] at ho; cases ho; cases hc)
theorem keeps_below {W W' : World} (h : Below W.heap.size W W') : KeepsOthers W W' := by
  refine ⟨h.size, fun b o hb _ => ?_⟩
  exact (h.block b (Array.getElem?_eq_some_iff.1 hb).1).trans hb
def sumS {N : Nat} (o : Fin N → Int × Int × Int) (xs : List (Fin N)) : Int × Int × Int := xs.foldl (fun s i => (wrap64 (s.1 + (o i).1), wrap64 (s.2.1 + (o i).2.1), wrap64 (s.2.2 + (o i).2.2))) (0, 0, 0)
theorem sumS_snoc {N : Nat} (o : Fin N → Int × Int × Int) (xs : List (Fin N)) (i : Fin N) : sumS o (xs ++ [i]) = (wrap64 ((sumS o xs).1 + (o i).1), wrap64 ((sumS o xs).2.1 + (o i).2.1), wrap64 ((sumS o xs).2.2 + (o i).2.2)) := by
  unfold sumS
  rw [List.foldl_append]
  rfl
def spV (s : Int × Int × Int) : Array Value := #[.int .i64 s.1, .int .i64 s.2.1, .int .i64 s.2.2]
end Go.Proofs.Ytjoogeabdjdleaa
set_option maxRecDepth 100000
namespace Go.Proofs.Ytjoogeabdjdleaa
open Go.Proofs Go.RowKit Go.Shelf
def findR (n : Nat) : Code → Option (Array Oper)
  | .region k ops _ => if k == n then some ops else none
  | .seq a b => (findR n a).or (findR n b)
  | .cond _ a b => (findR n a).or (findR n b)
  | .block _ a => findR n a
  | .loop a => findR n a
  | .rangeFunc _ _ a b => (findR n a).or (findR n b)
  | _ => none
noncomputable def ops4 : Array Oper := (Try.f11.body.bind (findR 4)).getD #[]
theorem ready_at {listed : Array Bool} {i : Nat} {o : Oper} {ops : Array Oper} (h : i ∈ Region.ready .any ops listed) (ho : ops[i]? = some o) :
    listed.getD i true = false ∧ (o.after.all fun e => !Region.binds .any e || listed.getD e.on false) = true := by
  unfold Region.ready at h
  rw [List.mem_filter] at h
  simpa [ho] using h.2
theorem ready_lt {listed : Array Bool} {i : Nat} {ops : Array Oper} (h : i ∈ Region.ready .any ops listed) : i < ops.size := by
  unfold Region.ready at h
  rw [List.mem_filter] at h
  simpa using h.1
theorem any_inv {F : Fence} {n : Nat} {P : Program} {ops : Array Oper} {Q : Exit → Act → World → Prop} (Inv : Array Bool → Act → World → Prop) (hsz : ∀ listed a w, Inv listed a w → listed.size = ops.size)
    (step : ∀ listed a w i, Inv listed a w → i ∈ Region.ready .any ops listed → wpOpIn F n P ops Q i (fun a' w' => Inv (listed.setIfInBounds i true) a' w') a w)
    (done : ∀ listed a w, Inv listed a w → Region.ready .any ops listed = [] → Q .normal a w) :
    ∀ (fuel : Nat) (listed : Array Bool) (a : Act) (w : World), Inv listed a w → listed.toList.count false ≤ fuel → wpAnyIn F n P .any ops Q fuel listed a w
  | 0, listed, a, w, h, hf => by
    have hr : Region.ready .any ops listed = [] := by
      rw [List.eq_nil_iff_forall_not_mem]
      intro i hi
      have hlt := ready_lt hi
      have h1 := (ready_at (o := ops[i]) hi (Array.getElem?_eq_getElem hlt)).1
      have hl : i < listed.size := by rw [hsz _ _ _ h]; exact hlt
      have h2 : listed[i] = false := by simpa [Array.getD, hl] using h1
      have h3 : false ∈ listed.toList := by rw [← h2]; exact Array.getElem_mem_toList hl
      have := List.count_pos_iff.2 h3
      omega
    exact ⟨hr, done _ _ _ h hr⟩
  | fuel + 1, listed, a, w, h, hf => by
    refine ⟨fun hr => done _ _ _ h hr, fun i hi => ?_⟩
    refine wpOpIn_mono (fun a' w' hI => any_inv Inv hsz step done fuel _ a' w' hI ?_) (step _ _ _ i h hi)
    have hlt := ready_lt hi
    have h1 := (ready_at (o := ops[i]) hi (Array.getElem?_eq_getElem hlt)).1
    have hl : i < listed.size := by rw [hsz _ _ _ h]; exact hlt
    have h2 : listed[i] = false := by simpa [Array.getD, hl] using h1
    have h3 : (listed.setIfInBounds i true).toList.count false + 1 ≤ listed.toList.count false := by
      rw [Array.toList_setIfInBounds, List.count_set (by simpa using hl)]
      have this' : listed.toList[i]'(by simpa using hl) = false := by simpa using h2
      have h3 : false ∈ listed.toList := by rw [← h2]; exact Array.getElem_mem_toList hl
      have := List.count_pos_iff.2 h3
      rw [this']
      simp only [beq_self_eq_true, if_true, show (true == false) = false from rfl, Bool.false_eq_true, if_false]
      omega
    omega

noncomputable def dst4 (i : Nat) : Option Nat := (ops4[i]?).bind (·.dst)
noncomputable def deps4 (i : Nat) : List Nat := ((ops4[i]?).map fun o => (o.after.toList.filter fun e => Region.binds .any e).map (·.on)).getD []
theorem deps_of {listed : Array Bool} {i : Nat} (h : i ∈ Region.ready .any ops4 listed) {d : Nat} (hd : (deps4 i).contains d = true) : listed.getD d false = true := by
  have hlt := ready_lt h
  have h2 := (ready_at (o := ops4[i]) h (Array.getElem?_eq_getElem hlt)).2
  rw [List.contains_iff_mem] at hd
  unfold deps4 at hd
  rw [Array.getElem?_eq_getElem hlt] at hd
  simp only [Option.map_some, Option.getD_some, List.mem_map, List.mem_filter] at hd
  obtain ⟨e, ⟨he, hb⟩, rfl⟩ := hd
  have := (Array.all_eq_true_iff_forall_mem.1 h2) e (by simpa using he)
  simpa [hb] using this
def V4 (B1 B4 : Nat) (x0 x1 x2 y0 y1 y2 : Int) : Nat → Value
  | 11 => .pointer (some ⟨B1, 0, none⟩) | 12 => .int .i64 x0 | 13 => .pointer (some ⟨B4, 0, none⟩) | 14 => .int .i64 y0 | 15 => .int .i64 (wrap64 (x0 + y0))
  | 16 => .pointer (some ⟨B1, 1, none⟩) | 17 => .int .i64 x1 | 18 => .pointer (some ⟨B4, 1, none⟩) | 19 => .int .i64 y1 | 20 => .int .i64 (wrap64 (x1 + y1))
  | 21 => .pointer (some ⟨B1, 2, none⟩) | 22 => .int .i64 x2 | 23 => .pointer (some ⟨B4, 2, none⟩) | 24 => .int .i64 y2 | 25 => .int .i64 (wrap64 (x2 + y2))
  | 26 => .pointer (some ⟨B1, 0, none⟩) | 27 => .pointer (some ⟨B1, 1, none⟩) | 28 => .pointer (some ⟨B1, 2, none⟩)
  | _ => undef
theorem dst_inj : ((List.range 21).all fun i => (List.range 21).all fun j => i == j || (dst4 i).isNone || !(dst4 i == dst4 j)) = true := by kernel_rfl
theorem dst_rng : ((List.range 21).all fun i => match dst4 i with | some d => decide (11 ≤ d) && decide (d < 29) | none => true) = true := by kernel_rfl
theorem BoxR.set {w : World} {B : Nat} {t : TypeId} {C : Array Value} (h : BoxR w B t C) (j : Nat) (v : Value) : BoxR (w.setCell ⟨B, j, none⟩ v) B t (C.setIfInBounds j v) := by
  unfold BoxR at *
  simp [World.setCell, Array.getElem?_modify, h]
structure I4 (n₀ B1 B4 : Nat) (x0 x1 x2 y0 y1 y2 : Int) (W3 : World) (listed : Array Bool) (a : Act) (w : World) : Prop where
  sz : listed.size = 21
  tz : a.tmps.size = 30
  t2 : a.tmps.getD 2 undef = .pointer (some ⟨B1, 0, none⟩)
  t4 : a.tmps.getD 4 undef = .pointer (some ⟨B4, 0, none⟩)
  val : ∀ i d, i < 21 → dst4 i = some d → listed.getD i false = true → a.tmps.getD d undef = V4 B1 B4 x0 x1 x2 y0 y1 y2 d
  cl : ∀ i d, (deps4 i).contains d = true → listed.getD i false = true → listed.getD d false = true
  sum : BoxR w B1 39 #[.int .i64 (if listed.getD 16 false = true then wrap64 (x0 + y0) else x0), .int .i64 (if listed.getD 18 false = true then wrap64 (x1 + y1) else x1), .int .i64 (if listed.getD 20 false = true then wrap64 (x2 + y2) else x2)]
  src : BoxR w B4 39 #[.int .i64 y0, .int .i64 y1, .int .i64 y2]
  ko : KeepsOthers W3 w
  be : Below n₀ W3 w
theorem set_get {listed : Array Bool} {i j : Nat} (h : i < listed.size) : (listed.setIfInBounds i true).getD j false = if j = i then true else listed.getD j false := by
  by_cases hj : j = i
  · subst hj; simp [Array.getD, h]
  · rw [if_neg hj]
    simp only [Array.getD_eq_getD_getElem?, Array.getElem?_setIfInBounds_ne (fun e => hj e.symm)]
section
variable {n₀ B1 B4 : Nat} {x0 x1 x2 y0 y1 y2 : Int} {W3 : World} {listed : Array Bool} {a : Act} {w : World}
theorem I4.put (h : I4 n₀ B1 B4 x0 x1 x2 y0 y1 y2 W3 listed a w) {i d : Nat} (hi : i < 21) (hr : i ∈ Region.ready .any ops4 listed) (hd : dst4 i = some d) (h1 : i ≠ 16) (h2 : i ≠ 18) (h3 : i ≠ 20) :
    I4 n₀ B1 B4 x0 x1 x2 y0 y1 y2 W3 (listed.setIfInBounds i true) (a.put (some d) (V4 B1 B4 x0 x1 x2 y0 y1 y2 d)) w := by
  have hs : i < listed.size := by rw [h.sz]; exact hi
  have hrng := List.all_eq_true.1 dst_rng i (by simpa using hi)
  rw [hd] at hrng
  simp only [Bool.and_eq_true, decide_eq_true_eq] at hrng
  have hget : ∀ k v, k ≠ d → (a.put (some d) v).tmps.getD k undef = a.tmps.getD k undef := fun k v hk => by
    show (a.tmps.setIfInBounds d v).getD k undef = _
    simp only [Array.getD_eq_getD_getElem?, Array.getElem?_setIfInBounds_ne (fun e => hk e.symm)]
  refine ⟨by simp [h.sz], by simp [Act.put, h.tz], (hget 2 _ (by omega)).trans h.t2, (hget 4 _ (by omega)).trans h.t4, fun j e hj he hl => ?_, fun j e he hl => ?_, ?_, h.src, h.ko, h.be⟩
  · rw [set_get hs] at hl
    by_cases hji : j = i
    · subst hji
      rw [hd] at he
      obtain rfl := Option.some.inj he
      show (a.tmps.setIfInBounds d _).getD d undef = _
      simp [Array.getD, h.tz, (show d < 30 by omega)]
    · rw [if_neg hji] at hl
      have hinj := List.all_eq_true.1 (List.all_eq_true.1 dst_inj i (by simpa using hi)) j (by simpa using hj)
      rw [hd, he] at hinj
      have hne : e ≠ d := by
        rintro rfl
        simp [Ne.symm hji] at hinj
      rw [hget e _ hne]
      exact h.val j e hj he hl
  · rw [set_get hs] at hl ⊢
    by_cases hji : j = i
    · subst hji
      have := deps_of hr he
      split
      · rfl
      · exact this
    · rw [if_neg hji] at hl
      split
      · rfl
      · exact h.cl j e he hl
  · rw [set_get hs, set_get hs, set_get hs, if_neg (Ne.symm h1), if_neg (Ne.symm h2), if_neg (Ne.symm h3)]
    exact h.sum

theorem BoxR.other {w : World} {B B' : Nat} {t : TypeId} {C : Array Value} (h : BoxR w B t C) (hne : B' ≠ B) (j : Nat) (v : Value) : BoxR (w.setCell ⟨B', j, none⟩ v) B t C := by
  unfold BoxR at *
  simp [World.setCell, Array.getElem?_modify, h, hne]
theorem not_yet (h : I4 n₀ B1 B4 x0 x1 x2 y0 y1 y2 W3 listed a w) {i d : Nat} (hr : i ∈ Region.ready .any ops4 listed) (hd : (deps4 d).contains i = true) : listed.getD d false = false := by
  have hlt := ready_lt hr
  have h1 := (ready_at (o := ops4[i]) hr (Array.getElem?_eq_getElem hlt)).1
  cases hl : listed.getD d false with
  | false => rfl
  | true =>
    have h2 := h.cl d i hd hl
    have hi : i < listed.size := by rw [h.sz]; exact hlt
    simp [Array.getD, hi] at h1 h2
    rw [h1] at h2
    cases h2
theorem op_of {l n i : Nat} {o : Oper} {v : Value} {w' : World} {Q : Exit → Act → World → Prop} {K : Act → World → Prop} (ho : ops4[i]? = some o) (hg : o.guard = none) (hnd : ∀ c, o.op ≠ .defer c)
    (hrun : (execOp a.eval o).run Try.prog w = .ok (.value v) w') (hK : K (a.put o.dst v) w') : wpOpIn (Fence.wide.inRound l) n Try.prog ops4 Q i K a w := by
  unfold wpOpIn
  rw [ho]
  have hw : Region.wanted o (yielded ops4 a.tmps) = true := by simp [Region.wanted, hg]
  simp only [hw, if_true]
  refine ⟨fun f _ => trivial, ?_⟩
  rw [show (Fence.wide.inRound l).round = some l from rfl, Oper.semAt_some l _ _ hnd, hrun]
  exact hK
theorem op_skip {l n i : Nat} {o : Oper} {w' : World} {Q : Exit → Act → World → Prop} {K : Act → World → Prop} (ho : ops4[i]? = some o) (hdst : o.dst = none) (hg : o.guard = none) (hnd : ∀ c, o.op ≠ .defer c)
    (hrun : (execOp a.eval o).run Try.prog w = .ok .skip w') (hK : K a w') : wpOpIn (Fence.wide.inRound l) n Try.prog ops4 Q i K a w := by
  unfold wpOpIn
  rw [ho]
  have hw : Region.wanted o (yielded ops4 a.tmps) = true := by simp [Region.wanted, hg]
  simp only [hw, if_true]
  refine ⟨fun f _ => trivial, ?_⟩
  rw [show (Fence.wide.inRound l).round = some l from rfl, Oper.semAt_some l _ _ hnd, hrun, Oper.uponIn_skip, hdst]
  exact hK
theorem ex_fa {o : Oper} {s k B : Nat} (ho : o.op = .fieldAddr 39 (.tmp s) k) (h : a.tmps.getD s undef = .pointer (some ⟨B, 0, none⟩)) (hk : k < 3) : (execOp a.eval o).run Try.prog w = .ok (.value (.pointer (some ⟨B, k, none⟩))) w := by
  have he : a.tmps[s]?.getD undef = .pointer (some ⟨B, 0, none⟩) := by rw [← Array.getD_eq_getD_getElem?]; exact h
  match k, hk with
  | 0, _ => simp [go_sem, execOp, ho, he]
  | 1, _ => simp [go_sem, execOp, ho, he]
  | 2, _ => simp [go_sem, execOp, ho, he]
theorem ex_ld {o : Oper} {s B k : Nat} {x : Int} (ho : o.op = .load 3 (.tmp s)) (h : a.tmps.getD s undef = .pointer (some ⟨B, k, none⟩)) (hc : w.cell? ⟨B, k, none⟩ = some (.int .i64 x)) : (execOp a.eval o).run Try.prog w = .ok (.value (.int .i64 x)) w := by
  have he : a.tmps[s]?.getD undef = .pointer (some ⟨B, k, none⟩) := by rw [← Array.getD_eq_getD_getElem?]; exact h
  simp [go_sem, execOp, ho, he, hc]
theorem ex_add {o : Oper} {s t : Nat} {x y : Int} (ho : o.op = .binOp .add 3 (.tmp s) (.tmp t) 3) (h : a.tmps.getD s undef = .int .i64 x) (h' : a.tmps.getD t undef = .int .i64 y) : (execOp a.eval o).run Try.prog w = .ok (.value (.int .i64 (wrap64 (x + y)))) w := by
  have he : a.tmps[s]?.getD undef = .int .i64 x := by rw [← Array.getD_eq_getD_getElem?]; exact h
  have he' : a.tmps[t]?.getD undef = .int .i64 y := by rw [← Array.getD_eq_getD_getElem?]; exact h'
  simp [go_sem, execOp, ho, he, he']
  unfold wrap64
  exact IntKind.wrap_i64 _
theorem ex_st {o : Oper} {s t B k : Nat} {x y : Int} (ho : o.op = .store 3 (.tmp s) (.tmp t)) (h : a.tmps.getD s undef = .pointer (some ⟨B, k, none⟩)) (h' : a.tmps.getD t undef = .int .i64 y) (hc : w.cell? ⟨B, k, none⟩ = some (.int .i64 x)) (hf : w.frozen? ⟨B, k, none⟩ = false) :
    (execOp a.eval o).run Try.prog w = .ok .skip (w.setCell ⟨B, k, none⟩ (.int .i64 y)) := by
  have he : a.tmps[s]?.getD undef = .pointer (some ⟨B, k, none⟩) := by rw [← Array.getD_eq_getD_getElem?]; exact h
  have he' : a.tmps[t]?.getD undef = .int .i64 y := by rw [← Array.getD_eq_getD_getElem?]; exact h'
  simp [go_sem, execOp, ho, he, he', hc, hf]
theorem I4.store0 (h : I4 n₀ B1 B4 x0 x1 x2 y0 y1 y2 W3 listed a w) (hB : n₀ ≤ B1 ∧ B1 ≠ B4) (hr : 16 ∈ Region.ready .any ops4 listed) :
    I4 n₀ B1 B4 x0 x1 x2 y0 y1 y2 W3 (listed.setIfInBounds 16 true) a (w.setCell ⟨B1, 0, none⟩ (.int .i64 (wrap64 (x0 + y0)))) := by
  have hs : 16 < listed.size := by rw [h.sz]; decide
  refine ⟨by simp [h.sz], h.tz, h.t2, h.t4, fun j e hj he hl => ?_, fun j e he hl => ?_, ?_, ?_, h.ko.trans (KeepsOthers.setCell _ _ _), h.be.setCell (p := ⟨B1, 0, none⟩) hB.1 _⟩
  · rw [set_get hs] at hl
    by_cases hji : j = 16
    · subst hji
      cases he
    · rw [if_neg hji] at hl
      exact h.val j e hj he hl
  · rw [set_get hs] at hl ⊢
    by_cases hji : j = 16
    · subst hji
      have := deps_of hr he
      split
      · rfl
      · exact this
    · rw [if_neg hji] at hl
      split
      · rfl
      · exact h.cl j e he hl
  · rw [set_get hs, set_get hs, set_get hs]
    have := h.sum.set 0 (.int .i64 (wrap64 (x0 + y0)))
    simpa using this
  · exact h.src.other hB.2 _ _
theorem I4.store1 (h : I4 n₀ B1 B4 x0 x1 x2 y0 y1 y2 W3 listed a w) (hB : n₀ ≤ B1 ∧ B1 ≠ B4) (hr : 18 ∈ Region.ready .any ops4 listed) :
    I4 n₀ B1 B4 x0 x1 x2 y0 y1 y2 W3 (listed.setIfInBounds 18 true) a (w.setCell ⟨B1, 1, none⟩ (.int .i64 (wrap64 (x1 + y1)))) := by
  have hs : 18 < listed.size := by rw [h.sz]; decide
  refine ⟨by simp [h.sz], h.tz, h.t2, h.t4, fun j e hj he hl => ?_, fun j e he hl => ?_, ?_, ?_, h.ko.trans (KeepsOthers.setCell _ _ _), h.be.setCell (p := ⟨B1, 1, none⟩) hB.1 _⟩
  · rw [set_get hs] at hl
    by_cases hji : j = 18
    · subst hji
      cases he
    · rw [if_neg hji] at hl
      exact h.val j e hj he hl
  · rw [set_get hs] at hl ⊢
    by_cases hji : j = 18
    · subst hji
      have := deps_of hr he
      split
      · rfl
      · exact this
    · rw [if_neg hji] at hl
      split
      · rfl
      · exact h.cl j e he hl
  · rw [set_get hs, set_get hs, set_get hs]
    have := h.sum.set 1 (.int .i64 (wrap64 (x1 + y1)))
    simpa using this
  · exact h.src.other hB.2 _ _
theorem I4.store2 (h : I4 n₀ B1 B4 x0 x1 x2 y0 y1 y2 W3 listed a w) (hB : n₀ ≤ B1 ∧ B1 ≠ B4) (hr : 20 ∈ Region.ready .any ops4 listed) :
    I4 n₀ B1 B4 x0 x1 x2 y0 y1 y2 W3 (listed.setIfInBounds 20 true) a (w.setCell ⟨B1, 2, none⟩ (.int .i64 (wrap64 (x2 + y2)))) := by
  have hs : 20 < listed.size := by rw [h.sz]; decide
  refine ⟨by simp [h.sz], h.tz, h.t2, h.t4, fun j e hj he hl => ?_, fun j e he hl => ?_, ?_, ?_, h.ko.trans (KeepsOthers.setCell _ _ _), h.be.setCell (p := ⟨B1, 2, none⟩) hB.1 _⟩
  · rw [set_get hs] at hl
    by_cases hji : j = 20
    · subst hji
      cases he
    · rw [if_neg hji] at hl
      exact h.val j e hj he hl
  · rw [set_get hs] at hl ⊢
    by_cases hji : j = 20
    · subst hji
      have := deps_of hr he
      split
      · rfl
      · exact this
    · rw [if_neg hji] at hl
      split
      · rfl
      · exact h.cl j e he hl
  · rw [set_get hs, set_get hs, set_get hs]
    have := h.sum.set 2 (.int .i64 (wrap64 (x2 + y2)))
    simpa using this
  · exact h.src.other hB.2 _ _
theorem step4 {l n : Nat} {Q : Exit → Act → World → Prop} (h : I4 n₀ B1 B4 x0 x1 x2 y0 y1 y2 W3 listed a w) (hB : n₀ ≤ B1 ∧ B1 ≠ B4) : ∀ i, i < 21 → i ∈ Region.ready .any ops4 listed →
    wpOpIn (Fence.wide.inRound l) n Try.prog ops4 Q i (fun a' w' => I4 n₀ B1 B4 x0 x1 x2 y0 y1 y2 W3 (listed.setIfInBounds i true) a' w') a w
  | 0, hi, hr => by
    exact op_of (o := ops4[0]) rfl rfl (fun c hc => by cases hc) (ex_fa (s := 2) (k := 0) rfl h.t2 (by decide)) (h.put (d := 11) hi hr rfl (by decide) (by decide) (by decide))
  | 1, hi, hr => by
    have hf : listed.getD 16 false = false := not_yet h hr (d := 16) (by kernel_rfl)
    have hc := h.sum.cell 0
    rw [hf] at hc
    exact op_of (o := ops4[1]) rfl rfl (fun c hc => by cases hc) (ex_ld (s := 11) (x := x0) rfl (h.val 0 11 (by decide) rfl (deps_of hr (d := 0) (by kernel_rfl))) hc) (h.put (d := 12) hi hr rfl (by decide) (by decide) (by decide))
  | 2, hi, hr => by
    exact op_of (o := ops4[2]) rfl rfl (fun c hc => by cases hc) (ex_fa (s := 4) (k := 0) rfl h.t4 (by decide)) (h.put (d := 13) hi hr rfl (by decide) (by decide) (by decide))
  | 3, hi, hr => by
    exact op_of (o := ops4[3]) rfl rfl (fun c hc => by cases hc) (ex_ld (s := 13) rfl (h.val 2 13 (by decide) rfl (deps_of hr (d := 2) (by kernel_rfl))) (h.src.cell 0)) (h.put (d := 14) hi hr rfl (by decide) (by decide) (by decide))
  | 4, hi, hr => by
    exact op_of (o := ops4[4]) rfl rfl (fun c hc => by cases hc) (ex_add (s := 12) (t := 14) rfl (h.val 1 12 (by decide) rfl (deps_of hr (d := 1) (by kernel_rfl))) (h.val 3 14 (by decide) rfl (deps_of hr (d := 3) (by kernel_rfl)))) (h.put (d := 15) hi hr rfl (by decide) (by decide) (by decide))
  | 5, hi, hr => by
    exact op_of (o := ops4[5]) rfl rfl (fun c hc => by cases hc) (ex_fa (s := 2) (k := 1) rfl h.t2 (by decide)) (h.put (d := 16) hi hr rfl (by decide) (by decide) (by decide))
  | 6, hi, hr => by
    have hf : listed.getD 18 false = false := not_yet h hr (d := 18) (by kernel_rfl)
    have hc := h.sum.cell 1
    rw [hf] at hc
    exact op_of (o := ops4[6]) rfl rfl (fun c hc => by cases hc) (ex_ld (s := 16) (x := x1) rfl (h.val 5 16 (by decide) rfl (deps_of hr (d := 5) (by kernel_rfl))) hc) (h.put (d := 17) hi hr rfl (by decide) (by decide) (by decide))
  | 7, hi, hr => by
    exact op_of (o := ops4[7]) rfl rfl (fun c hc => by cases hc) (ex_fa (s := 4) (k := 1) rfl h.t4 (by decide)) (h.put (d := 18) hi hr rfl (by decide) (by decide) (by decide))
  | 8, hi, hr => by
    exact op_of (o := ops4[8]) rfl rfl (fun c hc => by cases hc) (ex_ld (s := 18) rfl (h.val 7 18 (by decide) rfl (deps_of hr (d := 7) (by kernel_rfl))) (h.src.cell 1)) (h.put (d := 19) hi hr rfl (by decide) (by decide) (by decide))
  | 9, hi, hr => by
    exact op_of (o := ops4[9]) rfl rfl (fun c hc => by cases hc) (ex_add (s := 17) (t := 19) rfl (h.val 6 17 (by decide) rfl (deps_of hr (d := 6) (by kernel_rfl))) (h.val 8 19 (by decide) rfl (deps_of hr (d := 8) (by kernel_rfl)))) (h.put (d := 20) hi hr rfl (by decide) (by decide) (by decide))
  | 10, hi, hr => by
    exact op_of (o := ops4[10]) rfl rfl (fun c hc => by cases hc) (ex_fa (s := 2) (k := 2) rfl h.t2 (by decide)) (h.put (d := 21) hi hr rfl (by decide) (by decide) (by decide))
  | 11, hi, hr => by
    have hf : listed.getD 20 false = false := not_yet h hr (d := 20) (by kernel_rfl)
    have hc := h.sum.cell 2
    rw [hf] at hc
    exact op_of (o := ops4[11]) rfl rfl (fun c hc => by cases hc) (ex_ld (s := 21) (x := x2) rfl (h.val 10 21 (by decide) rfl (deps_of hr (d := 10) (by kernel_rfl))) hc) (h.put (d := 22) hi hr rfl (by decide) (by decide) (by decide))
  | 12, hi, hr => by
    exact op_of (o := ops4[12]) rfl rfl (fun c hc => by cases hc) (ex_fa (s := 4) (k := 2) rfl h.t4 (by decide)) (h.put (d := 23) hi hr rfl (by decide) (by decide) (by decide))
  | 13, hi, hr => by
    exact op_of (o := ops4[13]) rfl rfl (fun c hc => by cases hc) (ex_ld (s := 23) rfl (h.val 12 23 (by decide) rfl (deps_of hr (d := 12) (by kernel_rfl))) (h.src.cell 2)) (h.put (d := 24) hi hr rfl (by decide) (by decide) (by decide))
  | 14, hi, hr => by
    exact op_of (o := ops4[14]) rfl rfl (fun c hc => by cases hc) (ex_add (s := 22) (t := 24) rfl (h.val 11 22 (by decide) rfl (deps_of hr (d := 11) (by kernel_rfl))) (h.val 13 24 (by decide) rfl (deps_of hr (d := 13) (by kernel_rfl)))) (h.put (d := 25) hi hr rfl (by decide) (by decide) (by decide))
  | 15, hi, hr => by
    exact op_of (o := ops4[15]) rfl rfl (fun c hc => by cases hc) (ex_fa (s := 2) (k := 0) rfl h.t2 (by decide)) (h.put (d := 26) hi hr rfl (by decide) (by decide) (by decide))
  | 16, hi, hr => by
    exact op_skip (o := ops4[16]) rfl rfl rfl (fun c hc => by cases hc) (ex_st (s := 26) (t := 15) rfl (h.val 15 26 (by decide) rfl (deps_of hr (d := 15) (by kernel_rfl))) (h.val 4 15 (by decide) rfl (deps_of hr (d := 4) (by kernel_rfl))) (h.sum.cell 0) (h.sum.frozen 0)) (h.store0 hB hr)
  | 17, hi, hr => by
    exact op_of (o := ops4[17]) rfl rfl (fun c hc => by cases hc) (ex_fa (s := 2) (k := 1) rfl h.t2 (by decide)) (h.put (d := 27) hi hr rfl (by decide) (by decide) (by decide))
  | 18, hi, hr => by
    exact op_skip (o := ops4[18]) rfl rfl rfl (fun c hc => by cases hc) (ex_st (s := 27) (t := 20) rfl (h.val 17 27 (by decide) rfl (deps_of hr (d := 17) (by kernel_rfl))) (h.val 9 20 (by decide) rfl (deps_of hr (d := 9) (by kernel_rfl))) (h.sum.cell 1) (h.sum.frozen 1)) (h.store1 hB hr)
  | 19, hi, hr => by
    exact op_of (o := ops4[19]) rfl rfl (fun c hc => by cases hc) (ex_fa (s := 2) (k := 2) rfl h.t2 (by decide)) (h.put (d := 28) hi hr rfl (by decide) (by decide) (by decide))
  | 20, hi, hr => by
    exact op_skip (o := ops4[20]) rfl rfl rfl (fun c hc => by cases hc) (ex_st (s := 28) (t := 25) rfl (h.val 19 28 (by decide) rfl (deps_of hr (d := 19) (by kernel_rfl))) (h.val 14 25 (by decide) rfl (deps_of hr (d := 14) (by kernel_rfl))) (h.sum.cell 2) (h.sum.frozen 2)) (h.store2 hB hr)
  | i + 21, hi, _ => by omega
theorem deps_lt : ((List.range 21).all fun i => (deps4 i).all fun d => decide (d < i)) = true := by kernel_rfl
theorem all_listed {listed : Array Bool} (hs : listed.size = 21) (hr : Region.ready .any ops4 listed = []) : ∀ i, i < 21 → listed.getD i false = true := by
  intro i
  induction i using Nat.strongRecOn with
  | ind i ih =>
    intro hi
    cases hl : listed.getD i false with
    | true => rfl
    | false =>
      exfalso
      have hlt : i < ops4.size := hi
      have hm : i ∈ Region.ready .any ops4 listed := by
        unfold Region.ready
        rw [List.mem_filter]
        refine ⟨by simpa using hlt, ?_⟩
        have h1 : listed.getD i true = false := by
          have hi' : i < listed.size := by omega
          simp [Array.getD, hi'] at hl ⊢
          exact hl
        rw [h1, Array.getElem?_eq_getElem hlt]
        simp only [Bool.not_false, Option.map_some, Option.getD_some, Bool.true_and]
        rw [Array.all_eq_true_iff_forall_mem]
        intro e he
        cases hb : Region.binds .any e with
        | false => rfl
        | true =>
          have hd : e.on ∈ deps4 i := by
            unfold deps4
            rw [Array.getElem?_eq_getElem hlt]
            simp only [Option.map_some, Option.getD_some, List.mem_map, List.mem_filter]
            exact ⟨e, ⟨by simpa using he, hb⟩, rfl⟩
          have h2 := List.all_eq_true.1 (List.all_eq_true.1 deps_lt i (by simpa using hi)) _ hd
          have h3 := of_decide_eq_true h2
          rw [ih _ h3 (by omega)]
          rfl
      rw [hr] at hm
      cases hm
theorem reg4_in {l n : Nat} {Q : Exit → Act → World → Prop} (hB : n₀ ≤ B1 ∧ B1 ≠ B4) (hz : a.tmps.size = 30) (h2 : a.tmps.getD 2 undef = .pointer (some ⟨B1, 0, none⟩)) (h4 : a.tmps.getD 4 undef = .pointer (some ⟨B4, 0, none⟩))
    (bS : BoxR W3 B1 39 #[.int .i64 x0, .int .i64 x1, .int .i64 x2]) (bX : BoxR W3 B4 39 #[.int .i64 y0, .int .i64 y1, .int .i64 y2])
    (hQ : ∀ a' w', BoxR w' B1 39 #[.int .i64 (wrap64 (x0 + y0)), .int .i64 (wrap64 (x1 + y1)), .int .i64 (wrap64 (x2 + y2))] → KeepsOthers W3 w' → Below n₀ W3 w' → Q .normal a' w') :
    (Code.region 4 ops4 true).wpIn (Fence.wide.inRound l) n Try.prog Q a W3 := by
  refine wpIn_region_any (by kernel_rfl) ?_
  refine any_inv (I4 n₀ B1 B4 x0 x1 x2 y0 y1 y2 W3) (fun _ _ _ h => h.sz.trans rfl) (fun listed a w i h hr => step4 h hB i (ready_lt hr) hr) (fun listed a w h hr => ?_) _ _ _ _ ?_ ?_
  · have hall := all_listed h.sz hr
    have hs := h.sum
    rw [hall 16 (by decide), hall 18 (by decide), hall 20 (by decide)] at hs
    exact hQ _ _ hs h.ko h.be
  · refine ⟨by rfl, hz, h2, h4, fun i d hi _ hl => ?_, fun i d _ hl => ?_, bS, bX, ⟨Nat.le_refl _, fun b o h _ => h⟩, (Below.refl n₀ W3).drew⟩
    · exact absurd hl (by rw [show (Array.replicate ops4.size false).getD i false = false by simp [Array.getD]]; decide)
    · exact absurd hl (by rw [show (Array.replicate ops4.size false).getD i false = false by simp [Array.getD]]; decide)
  · exact Nat.le_of_eq (by rfl)
end
end Go.Proofs.Ytjoogeabdjdleaa
namespace Go.Proofs.Ytjoogeabdjdleaa
open Go.Proofs Go.RowKit Go.Shelf
attribute [local go_sem] Oper.semAt_some
def Hid1 (p : Prop) : Prop := p
theorem simples_in (F : Fence) (n : Nat) (h17 : F.fn 20) (hro : F.round = none) (a : Option Addr) (len cap : Nat) (w : World) :
    CallsIn F n Try.prog 20 #[.slice a len cap] w fun e w' => e = .returned (.func (.func 22) #[] #[.pointer (some ⟨w.heap.size, 0, none⟩)]) ∧ w' = w.alloc (.cells #[.slice a len cap] 22) := by
  refine callsIn_of_wp Try.func20 rfl h17 ?_ hro
  simp only [Try.ntmps20, List.size_toArray, List.length_cons, List.length_nil, Nat.reduceAdd, Nat.reduceSub, Array.replicate_succ, Array.replicate_zero, List.push_toArray, List.append_toArray, List.nil_append, List.cons_append]
  gi_wp2
  go_ret
  exact ⟨rfl, rfl⟩
set_option maxRecDepth 100000 in
set_option maxHeartbeats 4000000 in
theorem spec_any (w : World) (N : Nat) (cs : Fin N → Sm) (comb : Int) (b2 o2 c2 b3 o3 c3 : Nat) (hN : N ≤ 1000000) (hN3 : N ≤ c3) (h1c : 1 ≤ c2) (hb2 : b2 < w.heap.size) (hb3 : b3 < w.heap.size)
    (hc2 : w.cell? ⟨b2, o2, none⟩ = some (.int .i64 comb)) (hc3 : w.cell? ⟨b2, o2 + 1, none⟩ = some (.slice (some ⟨b3, o3, none⟩) N c3))
    (hc4 : ∀ (i : Fin N) (j : Nat), j < 11 → w.cell? ⟨b3, o3 + i.1 * 11 + j, none⟩ = (cs i).cells[j]?) (o : Fin N → Int × Int × Int)
    (hone : ∀ (i : Fin N) (W : World), Below w.heap.size w W → Calls Try.prog 21 #[(cs i).val] W fun e W' => e = .returned (.agg (spV (o i))) ∧ Below W.heap.size W W') :
    Calls Try.prog 11 #[.agg #[.slice (some ⟨b2, o2, none⟩) 1 c2]] w fun e W' => e = .returned (.agg (spV (sumS o (List.finRange N)))) ∧ Below w.heap.size w W' := by
  refine (callsIn_wide (n := 9)).1 ?_
  refine callsIn_of_wp_marks Try.func11 rfl trivial ?_ rfl
  simp only [Try.ntmps11, List.size_toArray, List.length_cons, List.length_nil, Nat.reduceAdd, Nat.reduceSub, Array.replicate_succ, Array.replicate_zero, List.push_toArray, List.append_toArray, List.nil_append, List.cons_append]
  gi_wp2_with (refine ⟨trivial, ?_⟩; gi_at_call 20; refine (simples_in Fence.wide _ trivial rfl _ _ _ _).mono ?_; rintro e w' ⟨rfl, rfl⟩)
  have bS := ((BoxR.new (w.alloc (.cells #[.slice (some ⟨b2, o2, none⟩) 1 c2] 30)) 39 #[.int .i64 0, .int .i64 0, .int .i64 0]).alloc (.cells #[.slice (some ⟨b2, o2, none⟩) 1 c2] 30)).alloc (.cells #[.slice (some ⟨w.heap.size + 1 + 1, 0, none⟩) 1 1] 22)
  have bL := (BoxR.new ((w.alloc (.cells #[.slice (some ⟨b2, o2, none⟩) 1 c2] 30)).alloc (.cells #[.int .i64 0, .int .i64 0, .int .i64 0] 39)) 30 #[.slice (some ⟨b2, o2, none⟩) 1 c2]).alloc (.cells #[.slice (some ⟨w.heap.size + 1 + 1, 0, none⟩) 1 1] 22)
  have bB := BoxR.new (((w.alloc (.cells #[.slice (some ⟨b2, o2, none⟩) 1 c2] 30)).alloc (.cells #[.int .i64 0, .int .i64 0, .int .i64 0] 39)).alloc (.cells #[.slice (some ⟨b2, o2, none⟩) 1 c2] 30)) 22 #[.slice (some ⟨w.heap.size + 1 + 1, 0, none⟩) 1 1]
  have hB0 : Below w.heap.size w ((((w.alloc (.cells #[.slice (some ⟨b2, o2, none⟩) 1 c2] 30)).alloc (.cells #[.int .i64 0, .int .i64 0, .int .i64 0] 39)).alloc (.cells #[.slice (some ⟨b2, o2, none⟩) 1 c2] 30)).alloc (.cells #[.slice (some ⟨w.heap.size + 1 + 1, 0, none⟩) 1 1] 22)) :=
    ((((Below.refl _ w).alloc (Nat.le_refl _) _).alloc (by simp) _).alloc (by simp; omega) _).alloc (by simp; omega) _
  have hsz : ((((w.alloc (.cells #[.slice (some ⟨b2, o2, none⟩) 1 c2] 30)).alloc (.cells #[.int .i64 0, .int .i64 0, .int .i64 0] 39)).alloc (.cells #[.slice (some ⟨b2, o2, none⟩) 1 c2] 30)).alloc (.cells #[.slice (some ⟨w.heap.size + 1 + 1, 0, none⟩) 1 1] 22)).heap.size = w.heap.size + 4 := by simp
  simp only [World.size_alloc] at bS bL bB
  obtain ⟨W0, hW0⟩ : ∃ W0, ((((w.alloc (.cells #[.slice (some ⟨b2, o2, none⟩) 1 c2] 30)).alloc (.cells #[.int .i64 0, .int .i64 0, .int .i64 0] 39)).alloc (.cells #[.slice (some ⟨b2, o2, none⟩) 1 c2] 30)).alloc (.cells #[.slice (some ⟨w.heap.size + 1 + 1, 0, none⟩) 1 1] 22)) = W0 := ⟨_, rfl⟩
  rw [hW0] at bS bL bB hB0 hsz ⊢
  clear hW0
  have f2 := (hB0.cell (p := ⟨b2, o2, none⟩) hb2).trans hc2
  have f3 := (hB0.cell (p := ⟨b2, o2 + 1, none⟩) hb2).trans hc3
  have f4 : ∀ (i : Fin N) (j : Nat), j < 11 → W0.cell? ⟨b3, o3 + i.1 * 11 + j, none⟩ = (cs i).cells[j]? := fun i j hj => (hB0.cell (p := ⟨b3, o3 + i.1 * 11 + j, none⟩) hb3).trans (hc4 i j hj)
  refine wpIn_rangeFunc_ownH (F := Fence.wide) (n := 9) rfl (by omega) (gf := 22) (lb := #[.pointer (some ⟨w.heap.size + 1 + 1 + 1, 0, none⟩)]) rfl trivial (enters_of Try.func22 (by kernel_rfl) rfl)
    (simples_stops Fence.wide 8 trivial rfl (by omega) (w.heap.size + 1 + 1 + 1) w.heap.size N cs (w.heap.size + 1 + 1) 0 1 b2 o2 c2 b3 o3 c3 comb hb2 hb3 hN hN3 W0 (by omega) (by omega) (by omega) (bB.cell 0) (bL.cell 0) f2 f3 f4) belowK_t (belowK_b (by omega)) (Below.refl _ _) (fun _ => rfl)
    (fun pre W => BoxR W (w.heap.size + 1) 39 (spV (sumS o pre)) ∧ Below w.heap.size w W)
    (fun _ _ _ => False)
    (OwnFrom.and (Own.from (boxR_own _ _ _) _) (ownFrom_below (Nat.le_refl _) (by omega)))
    (fun _ _ _ _ _ hs _ _ => hs)
    ⟨bS, hB0⟩
    (fun x a' W => ∃ Bx, w.heap.size + 1 < Bx ∧ BoxR W Bx 37 (cs x).cells.toArray ∧ a' = { tmps := #[.agg #[.slice (some ⟨b2, o2, none⟩) 1 c2], .pointer (some ⟨w.heap.size, 0, none⟩), .pointer (some ⟨w.heap.size + 1, 0, none⟩), .pointer (some ⟨Bx, 0, none⟩), undef, .agg #[.slice (some ⟨b2, o2, none⟩) 1 c2], .slice (some ⟨w.heap.size + 1 + 1, 0, none⟩) 1 1, .func (.func 22) #[] #[.pointer (some ⟨w.heap.size + 1 + 1 + 1, 0, none⟩)], (cs x).val, undef, undef, undef, undef, undef, undef, undef, undef, undef, undef, undef, undef, undef, undef, undef, undef, undef, undef, undef, undef, undef], defers := [] })
    (fun x a' _ X Y row hs hg hr => by obtain ⟨Bx, h1, h2, h3⟩ := hs; exact ⟨Bx, h1, boxR_own Bx 37 (fun (_ : Unit) => (cs x).cells.toArray) () X Y row h2 hg (fun r e => (hr r e).2), h3⟩)
    ?assign ?body ?done ?stop
  case assign =>
    rintro l pre x W K ⟨bS1, hB1⟩ hK
    have hK' := hK
    dsimp only [Sm.val, Sm.cells] at hK'
    dsimp only [Sm.val]
    gi_wp2
    exact hK' _ _ ((KeepsOthers.alloc _ _).from _) ((Below.refl _ W).alloc hB1.size _) ⟨bS1.alloc _, hB1.alloc hB1.size _⟩ ⟨W.heap.size, bS1.lt, BoxR.new W 37 _, rfl⟩
  case body =>
    rintro l pre x a' W hl ⟨r, hr⟩ ⟨bS1, hB1⟩ ⟨Bx, hBx, bX, rfl⟩ hlt
    have x0 : W.cell? ⟨Bx, 0, none⟩ = some (.int .i64 (cs x).kind) := bX.cell 0
    have x1 : W.cell? ⟨Bx, 1, none⟩ = some (.int .i64 (cs x).ns) := bX.cell 1
    have x2 : W.cell? ⟨Bx, 2, none⟩ = some (.string (cs x).pre) := bX.cell 2
    have x3 : W.cell? ⟨Bx, 3, none⟩ = some (.string (cs x).nm) := bX.cell 3
    have x4 : W.cell? ⟨Bx, 4, none⟩ = some (.int .i64 (cs x).op) := bX.cell 4
    have x5 : W.cell? ⟨Bx, 5, none⟩ = some (.string (cs x).tx) := bX.cell 5
    have x6 : W.cell? ⟨Bx, 6, none⟩ = some (.bool (cs x).fold) := bX.cell 6
    have x7 : W.cell? ⟨Bx, 7, none⟩ = some (.int .i64 (cs x).mark) := bX.cell 7
    have x8 : W.cell? ⟨Bx, 8, none⟩ = some (.int .i64 (cs x).a) := bX.cell 8
    have x9 : W.cell? ⟨Bx, 9, none⟩ = some (.int .i64 (cs x).b) := bX.cell 9
    have x10 : W.cell? ⟨Bx, 10, none⟩ = some (.slice (cs x).of_ (cs x).n (cs x).c) := bX.cell 10
    have hO := hone x W hB1
    dsimp only [Sm.val, spV] at hO
    gi_wp2_with (refine ⟨trivial, ?_⟩; gi_at_call 21; refine (CallsIn.inRound l (callsIn_wide.2 hO)).mono ?_; rintro e W2 ⟨rfl, hb2'⟩; have bS2 := bS1.below hb2' bS1.lt; have s0 : W2.cell? ⟨w.heap.size + 1, 0, none⟩ = some (.int .i64 (sumS o pre).1) := bS2.cell 0; have s1 : W2.cell? ⟨w.heap.size + 1, 1, none⟩ = some (.int .i64 (sumS o pre).2.1) := bS2.cell 1; have s2 : W2.cell? ⟨w.heap.size + 1, 2, none⟩ = some (.int .i64 (sumS o pre).2.2) := bS2.cell 2)
    have b4 := BoxR.new W2 39 #[.int .i64 (o x).1, .int .i64 (o x).2.1, .int .i64 (o x).2.2]
    have bS3 := bS2.alloc (.cells #[.int .i64 (o x).1, .int .i64 (o x).2.1, .int .i64 (o x).2.2] 39)
    have hB3 : Below W.heap.size W (W2.alloc (.cells #[.int .i64 (o x).1, .int .i64 (o x).2.1, .int .i64 (o x).2.2] 39)) := hb2'.alloc hb2'.size _
    have hne : w.heap.size + 1 < W2.heap.size := Nat.lt_of_lt_of_le bS1.lt hb2'.size
    generalize W2.heap.size = B4 at *
    obtain ⟨W3, hW3⟩ : ∃ W3, W2.alloc (.cells #[.int .i64 (o x).1, .int .i64 (o x).2.1, .int .i64 (o x).2.2] 39) = W3 := ⟨_, rfl⟩
    rw [hW3] at b4 bS3 hB3 ⊢
    clear hW3 s0 s1 s2 x0 x1 x2 x3 x4 x5 x6 x7 x8 x9 x10 hO bX bS2 hb2'
    refine reg4_in (n₀ := w.heap.size) (B1 := w.heap.size + 1) (B4 := B4) ⟨Nat.le_succ _, by omega⟩ rfl rfl rfl bS3 b4 (fun a' w' hS hk hb => ?_)
    refine ⟨?_, (hB3.mono hB1.size).trans hb, ?_, hB1.trans ((hB3.mono hB1.size).trans hb)⟩
    · exact ((keeps_below hB3).trans hk).from _
    · rw [sumS_snoc]
      exact hS
  case done =>
    rintro D ys W hD rfl ⟨bS1, hB1⟩ hK
    have hDn : D ≠ w.heap.size + 1 := by omega
    have s0 : W.cell? ⟨w.heap.size + 1, 0, none⟩ = some (.int .i64 (sumS o (List.finRange N)).1) := bS1.cell 0
    have s1 : W.cell? ⟨w.heap.size + 1, 1, none⟩ = some (.int .i64 (sumS o (List.finRange N)).2.1) := bS1.cell 1
    have s2 : W.cell? ⟨w.heap.size + 1, 2, none⟩ = some (.int .i64 (sumS o (List.finRange N)).2.2) := bS1.cell 2
    have t0 := bS1.frozen 0
    have t1 := bS1.frozen 1
    have t2 := bS1.frozen 2
    obtain ⟨S, hSS⟩ : ∃ S, Hid1 (S = sumS o (List.finRange N)) := ⟨_, rfl⟩
    rw [← (show S = _ from hSS)] at s0 s1 s2 bS1
    gi_wp2
    have bW := ((bS1.set 0 (.int .i64 S.1)).set 1 (.int .i64 S.2.1)).set 2 (.int .i64 S.2.2)
    have hBW := ((hB1.setCell (p := ⟨w.heap.size + 1, 0, none⟩) (Nat.le_succ _) (.int .i64 S.1)).setCell (p := ⟨w.heap.size + 1, 1, none⟩) (Nat.le_succ _) (.int .i64 S.2.1)).setCell (p := ⟨w.heap.size + 1, 2, none⟩) (Nat.le_succ _) (.int .i64 S.2.2)
    have hKW : (((W.setCell ⟨w.heap.size + 1, 0, none⟩ (.int .i64 S.1)).setCell ⟨w.heap.size + 1, 1, none⟩ (.int .i64 S.2.1)).setCell ⟨w.heap.size + 1, 2, none⟩ (.int .i64 S.2.2)).heap[D]? = some (.deferred (some [])) := by
      simp [World.setCell, Array.getElem?_modify, Ne.symm hDn, hK]
    generalize ((W.setCell ⟨w.heap.size + 1, 0, none⟩ (.int .i64 S.1)).setCell ⟨w.heap.size + 1, 1, none⟩ (.int .i64 S.2.1)).setCell ⟨w.heap.size + 1, 2, none⟩ (.int .i64 S.2.2) = W9 at *
    refine ⟨by simp, .inl ⟨_, _, rfl, run_takeDeferred hKW, ?_⟩⟩
    have bP : BoxR (W9.putObj D (.deferred none)) (w.heap.size + 1) 39 (spV S) := (show BoxR W9 _ 39 (spV S) from bW).kept (grownBy_putObj' _ _ _) (fun e => hDn (Option.some.inj e).symm)
    have p0 : (W9.putObj D (.deferred none)).cell? ⟨w.heap.size + 1, 0, none⟩ = some (.int .i64 S.1) := bP.cell 0
    have p1 : (W9.putObj D (.deferred none)).cell? ⟨w.heap.size + 1, 1, none⟩ = some (.int .i64 S.2.1) := bP.cell 1
    have p2 : (W9.putObj D (.deferred none)).cell? ⟨w.heap.size + 1, 2, none⟩ = some (.int .i64 S.2.2) := bP.cell 2
    refine ⟨.agg (spV S), ?_, by rw [show S = _ from hSS], hBW.trans (belowK_b (w := w) (Nat.le_refl _) W9 D _ _ (by omega) hKW rfl rfl)⟩
    generalize W9.putObj D (.deferred none) = W10 at *
    unfold spV
    simp [results, go_sem, p0, p1, p2, Try.f11]
  case stop =>
    rintro D c pre W _ _ h _
    exact h.elim
end Go.Proofs.Ytjoogeabdjdleaa
namespace Go.Av
open Go.Proofs
def frzOps : List Oper → List Tmp
  | [] => []
  | o :: l => (match o.op with
    | .makeFunc _ _ c => c.toList.filterMap (fun | .tmp t => some t | _ => none)
    | _ => []) ++ frzOps l
instance g8c : Gs where
  gl := fun _ => .bad
  rowAt := fun _ => false
  frzAt := frzOps
theorem mx8c : Try.prog.follows .mixedOrders = true := by kernel_rfl
theorem nm8c : (Try.prog.funcs.all fun fn => !(fn.name == "runtime.NumGoroutine")) = true := by kernel_rfl
theorem fineS : Fine Try.prog := by
  refine ⟨mx8c, fun f fn hf => ?_⟩
  have h := Array.all_eq_true_iff_forall_mem.1 nm8c fn (Array.mem_of_getElem? hf)
  simpa using h
end Go.Av
namespace Go.Av
open Go.Proofs Go.RowKit Go.Proofs.Ytjoogeabdjdleaa
def cplx (ss : List D) : D := .agg [.list [.agg [.int .i64 0, .list ss]]]
def smp (k : Int) (nm : List UInt8) (of_ : List D) : D := .agg [.int .i64 k, .int .i64 0, .str [], .str nm, .int .i64 0, .str [], .bool false, .int .i64 0, .int .i64 0, .int .i64 0, .list of_]
def spD (a b c : Int) : D := .agg [.int .i64 a, .int .i64 b, .int .i64 c]
def leafK : D → Option (Int × List UInt8)
  | .agg [.list [.agg [.int .i64 0, .list [.agg [.int .i64 k, .int .i64 0, .str [], .str nm, .int .i64 0, .str [], .bool false, .int .i64 0, .int .i64 0, .int .i64 0, .list []]]]]] => some (k, nm)
  | _ => none
def ext81 : Call := fun f args pbs => match f, args, pbs with
  | 11, [x], [] => (match leafK x with
    | some (k, nm) => if k = 4 then some (spD 1 0 0, [], []) else if k = 1 then some (spD 0 0 1, [], []) else none
    | none => none)
  | _, _, _ => none
def topD : D := cplx [smp 1 [97] [], smp 8 [] [cplx [smp 4 [98] []], cplx [smp 1 [99] []]], smp 3 [100] []]
theorem one4 (nm : List UInt8) : aev Try.prog noExt 60 21 [smp 4 nm []] [] = some (spD 1 0 0, [.no], []) := by kernel_rfl
theorem leafK_eq {x : D} {k : Int} {nm : List UInt8} (h : leafK x = some (k, nm)) : x = cplx [smp k nm []] := by
  unfold leafK at h
  split at h
  · simp only [Option.some.injEq, Prod.mk.injEq] at h
    obtain ⟨rfl, rfl⟩ := h
    rfl
  · cases h
theorem list_form {F : Nat → Nat → Prop} {w : World} {v : Value} {es : List D} {sz : Nat} (hd : Den0 F w v (.list es)) (hs : ∀ e ∈ es, (dcells e).length = sz) (hne : es ≠ []) :
    ∃ b off c, v = .slice (some ⟨b, off, none⟩) es.length c ∧ es.length ≤ c ∧ ∀ (i j : Nat) (x : D) (y : D), es[i]? = some x → (dcells x)[j]? = some y → ∃ u, w.cell? ⟨b, off + (i * sz + j), none⟩ = some u ∧ Den0 F w u y ∧ u.oneCell' = true := by
  cases hd with
  | list a n c sz' es vs h1 h2 h3 h4 h5 h6 h7 =>
    subst h1
    obtain ⟨e0, r0, rfl⟩ := List.exists_cons_of_ne_nil hne
    have hsz : sz' = sz := (h4 e0 (by simp)).symm.trans (hs e0 (by simp))
    subst hsz
    rcases h6 with h6 | ⟨b, off, ha, hc⟩
    · rw [h6] at h5
      simp only [List.length_nil, List.length_cons] at h5
      have : 0 < (r0.length + 1) * sz' := Nat.mul_pos (by omega) h3
      omega
    · subst ha
      refine ⟨b, off, c, rfl, h2, fun i j x y hi hj => ?_⟩
      have hjl : j < sz' := by rw [← h4 x (List.mem_of_getElem? hi)]; exact (List.getElem?_eq_some_iff.1 hj).1
      have hil : i < (e0 :: r0).length := (List.getElem?_eq_some_iff.1 hi).1
      have hf := flat_at h4 hi j hjl
      rw [hj] at hf
      have hb : i * sz' + j < vs.length := by
        rw [h5]
        calc i * sz' + j < i * sz' + sz' := by omega
          _ = (i + 1) * sz' := by rw [Nat.succ_mul]
          _ ≤ _ := Nat.mul_le_mul_right _ hil
      have hv : vs[i * sz' + j]? = some vs[i * sz' + j] := List.getElem?_eq_getElem hb
      exact ⟨_, (hc _ _ hv).2.1, h7 _ _ _ hv hf, (hc _ _ hv).2.2⟩
theorem ext_old {F : Nat → Nat → Prop} {w : World} (h : Lt F w) : Ext (fun _ => False) F w (old w) w :=
  ⟨rfl, rfl, rfl, Nat.le_refl _, fun _ _ _ => rfl, fun b o hf => h b o hf, fun _ _ _ => rfl, fun _ _ _ _ h => h⟩
theorem ext_below {w w' : World} (hb : Below w.heap.size w w') : Ext (fun _ => False) (old w) w (old w') w' := by
  refine ⟨hb.os, hb.tape, hb.output, hb.size, fun b h _ => hb.block b h, fun b o h => Nat.lt_of_lt_of_le h hb.size, fun b o h => ?_, fun b es c hf hm => (hb.block b hf).trans hm⟩
  unfold World.cell?
  rw [hb.block b h]
def isSm : D → Bool
  | .agg [.int .i64 _, .int .i64 _, .str _, .str _, .int .i64 _, .str _, .bool _, .int .i64 _, .int .i64 _, .int .i64 _, .list _] => true
  | _ => false
theorem isSm_len {d : D} (h : isSm d = true) : (dcells d).length = 11 := by
  unfold isSm at h
  split at h
  · rfl
  · cases h
theorem sm_of {F : Nat → Nat → Prop} {w : World} {d : D} (hs : isSm d = true) {b off : Nat} (hc : ∀ (j : Nat) (y : D), (dcells d)[j]? = some y → ∃ u, w.cell? ⟨b, off + j, none⟩ = some u ∧ Den0 F w u y ∧ u.oneCell' = true) :
    ∃ s : Sm, (∀ j, j < 11 → w.cell? ⟨b, off + j, none⟩ = s.cells[j]?) ∧ Den0 F w s.val d := by
  unfold isSm at hs
  split at hs
  · rename_i k ns pre nm op tx fold mark a b' of_
    obtain ⟨u0, e0, d0, _⟩ := hc 0 _ rfl
    obtain ⟨u1, e1, d1, _⟩ := hc 1 _ rfl
    obtain ⟨u2, e2, d2, _⟩ := hc 2 _ rfl
    obtain ⟨u3, e3, d3, _⟩ := hc 3 _ rfl
    obtain ⟨u4, e4, d4, _⟩ := hc 4 _ rfl
    obtain ⟨u5, e5, d5, _⟩ := hc 5 _ rfl
    obtain ⟨u6, e6, d6, _⟩ := hc 6 _ rfl
    obtain ⟨u7, e7, d7, _⟩ := hc 7 _ rfl
    obtain ⟨u8, e8, d8, _⟩ := hc 8 _ rfl
    obtain ⟨u9, e9, d9, _⟩ := hc 9 _ rfl
    obtain ⟨u10, e10, d10, _⟩ := hc 10 _ rfl
    have d10' := d10
    cases d0; cases d1; cases d2; cases d3; cases d4; cases d5; cases d6; cases d7; cases d8; cases d9
    cases d10 with
    | list A n c sz es vs h1 h2 h3 h4 h5 h6 h7 =>
      refine ⟨⟨k, ns, ⟨pre.toArray⟩, ⟨nm.toArray⟩, op, ⟨tx.toArray⟩, fold, mark, a, b', A, n, c⟩, fun j hj => ?_, ?_⟩
      · match j, hj with
        | 0, _ => exact e0
        | 1, _ => exact e1
        | 2, _ => exact e2
        | 3, _ => exact e3
        | 4, _ => exact e4
        | 5, _ => exact e5
        | 6, _ => exact e6
        | 7, _ => exact e7
        | 8, _ => exact e8
        | 9, _ => exact e9
        | 10, _ => exact e10
      · refine Den0.agg [.int .i64 k, .int .i64 ns, .string ⟨pre.toArray⟩, .string ⟨nm.toArray⟩, .int .i64 op, .string ⟨tx.toArray⟩, .bool fold, .int .i64 mark, .int .i64 a, .int .i64 b', .slice A n c] _ rfl ?_ ?_
        · intro v hv
          simp only [List.mem_cons, List.not_mem_nil, or_false] at hv
          rcases hv with rfl | rfl | rfl | rfl | rfl | rfl | rfl | rfl | rfl | rfl | rfl <;> rfl
        · intro i v x hv hx
          match i with
          | 0 => simp at hv hx; subst hv; subst hx; exact .int _ _
          | 1 => simp at hv hx; subst hv; subst hx; exact .int _ _
          | 2 => simp at hv hx; subst hv; subst hx; exact .str _
          | 3 => simp at hv hx; subst hv; subst hx; exact .str _
          | 4 => simp at hv hx; subst hv; subst hx; exact .int _ _
          | 5 => simp at hv hx; subst hv; subst hx; exact .str _
          | 6 => simp at hv hx; subst hv; subst hx; exact .bool _
          | 7 => simp at hv hx; subst hv; subst hx; exact .int _ _
          | 8 => simp at hv hx; subst hv; subst hx; exact .int _ _
          | 9 => simp at hv hx; subst hv; subst hx; exact .int _ _
          | 10 => simp at hv hx; subst hv; subst hx; exact d10'
          | i + 11 => simp at hv
  · cases hs
theorem spec_den (w : World) (v : Value) (ss : List D) (hd : Den0 (old w) w v (cplx ss)) (hs : ∀ s ∈ ss, isSm s = true) (hne : ss ≠ []) (hN : ss.length ≤ 1000000) (o : Fin ss.length → Int × Int × Int)
    (hone : ∀ (i : Fin ss.length) (W : World) (u : Value), Below w.heap.size w W → Den0 (old W) W u ss[i] → Calls Try.prog 21 #[u] W fun e W' => e = .returned (.agg (spV (o i))) ∧ Below W.heap.size W W') :
    Calls Try.prog 11 #[v] w fun e W' => e = .returned (.agg (spV (sumS o (List.finRange ss.length)))) ∧ Below w.heap.size w W' := by
  unfold cplx at hd
  cases hd with
  | agg vs cs h1 h2 h3 =>
    match vs, h1 with
    | [L], _ =>
      have dL := h3 0 L _ rfl rfl
      obtain ⟨b2, o2, c2, rfl, hc2, hcell⟩ := list_form (sz := 2) dL (by simp [dcells]) (by simp)
      obtain ⟨u0, e0, d0, _⟩ := hcell 0 0 _ (.int .i64 0) rfl rfl
      obtain ⟨u1, e1, d1, _⟩ := hcell 0 1 _ (.list ss) rfl rfl
      cases d0
      obtain ⟨b3, o3, c3, rfl, hc3, hcell3⟩ := list_form (sz := 11) d1 (fun s h => isSm_len (hs s h)) hne
      have hS : ∀ i : Fin ss.length, ∃ s : Sm, (∀ j, j < 11 → w.cell? ⟨b3, o3 + i.1 * 11 + j, none⟩ = s.cells[j]?) ∧ Den0 (old w) w s.val ss[i] := fun i =>
        sm_of (hs _ (List.getElem_mem i.2)) (fun j y hy => by
          have := hcell3 i.1 j ss[i] y (List.getElem?_eq_getElem i.2) hy
          rw [← Nat.add_assoc] at this
          exact this)
      have hb2 : b2 < w.heap.size := cell_old e1
      have hb3 : b3 < w.heap.size := by
        have hpos : 0 < ss.length := List.length_pos_iff.2 hne
        obtain ⟨s, h4, _⟩ := hS ⟨0, hpos⟩
        have := h4 0 (by decide)
        exact cell_old (this.trans rfl)
      exact spec_any w ss.length (fun i => Classical.choose (hS i)) 0 b2 o2 c2 b3 o3 c3 hN hc3 hc2 hb2 hb3 (by simpa using e0) (by simpa using e1) (fun i j hj => (Classical.choose_spec (hS i)).1 j hj) o
        (fun i W hB => hone i W _ hB ((Classical.choose_spec (hS i)).2.ext (ext_below hB)))
end Go.Av
namespace Go.Av
open Go.Proofs Go.RowKit Go.Proofs.Ytjoogeabdjdleaa
theorem ret_below [Gs] {P : Program} {μ : Mu} {F : Nat → Nat → Prop} {w w' : World} {v : Value} {d : D} (hv : Den0 F w' v d) (hlt : Lt F w) (hb : Below w.heap.size w w') : Ret P 0 μ F w d [] [] (.returned v) w' := by
  refine ⟨v, F, fun _ _ => none, rfl, ?_, fun b o hf => Nat.lt_of_lt_of_le (hlt b o hf) hb.size, fun b o hf => .inl hf, .inl ⟨rfl, fun c' ν => .pure _ _ hv, rooms_nil⟩, fun j i g h => ?_, fun j i j' i' g h => ?_, fun i bx hi => absurd hi (Nat.not_lt_zero i)⟩
  · refine ⟨hb.os, hb.tape, hb.output, hb.size, fun b hb1 _ => hb.block b hb1, fun b o hf => hf, fun b o hf => ?_, fun b es c hf hm => (hb.block b (hlt b 0 hf)).trans hm⟩
    unfold World.cell?
    rw [hb.block b (hlt b o hf)]
  · cases h
  · cases h
theorem gok_ext {S : Nat → Prop} {F F' : Nat → Nat → Prop} {w w' : World} (h : Ext S F w F' w') (hg : GOK F w) : GOK F' w' := hg.ext h
theorem call1 {ext : Call} (hext : CallOK Try.prog ext) {f N : Nat} {x d : D} {r : List Room} (ev : aev Try.prog ext N f [x] [] = some (d, r, [])) {W : World} {u : Value} (hg : GOK (old W) W) (hu : Den0 (old W) W u x) :
    Calls Try.prog f #[u] W fun e W' => (∃ v, e = .returned v ∧ ∀ c ν, Den c ν (old W') W' v d) ∧ Below W.heap.size W W' := by
  obtain ⟨_, h⟩ := aev_sound fineS hext N f [x] [] _ _ _ ev
  refine (h [u] W (old W) mu0 rfl (fun i v y h1 h2 => by
    match i with
    | 0 => simp at h1 h2; subst h1; subst h2; exact .pure _ _ hu
    | i + 1 => simp at h1) (fun i bx hb => by simp at hb) (given0 W) (old_lt W) hg).mono ?_
  rintro e w' ⟨v, F', ncl, rfl, hE, hlt, _, hv, _⟩
  refine ⟨⟨v, rfl, ?_⟩, ⟨hE.os, hE.tape, hE.output, hE.size, fun b hb => hE.block b hb (S_zero _ b)⟩⟩
  rcases hv with ⟨_, hv, _⟩ | ⟨h1, _⟩
  · exact fun c ν => (hv c ν).ext (S := fun _ => False) ⟨rfl, rfl, rfl, Nat.le_refl _, fun _ _ _ => rfl, fun b o hf => hlt b o hf, fun _ _ _ => rfl, fun _ _ _ _ h => h⟩
  · simp at h1
theorem den_sp {c : Nat → Nat} {ν : Nat → Nat → Nat} {F : Nat → Nat → Prop} {w : World} {v : Value} {x y z : Int} (h : Den c ν F w v (spD x y z)) : v = .agg (spV (x, y, z)) := by
  have key : ∀ (vs : List Value), vs.length = 3 → (∀ (i : Nat) (v : Value) (d : D), vs[i]? = some v → ([D.int .i64 x, .int .i64 y, .int .i64 z] : List D)[i]? = some d → Den c ν F w v d) → vs.toArray = spV (x, y, z) := by
    intro vs hl hh
    match vs, hl with
    | [u0, u1, u2], _ =>
      have h0 := (hh 0 u0 _ rfl rfl).int_
      have h1 := (hh 1 u1 _ rfl rfl).int_
      have h2 := (hh 2 u2 _ rfl rfl).int_
      subst h0 h1 h2
      rfl
  unfold spD at h
  cases h with
  | pure v d hp =>
    cases hp with
    | agg vs cs h1 h2 h3 => rw [key vs h1 fun i v d a b => .pure _ _ (h3 i v d a b)]
  | agg vs cs h1 h2 h3 => rw [key vs h1 h3]
theorem sp_den {F : Nat → Nat → Prop} {w : World} (x y z : Int) : Den0 F w (.agg (spV (x, y, z))) (spD x y z) := by
  refine Den0.agg [.int .i64 x, .int .i64 y, .int .i64 z] _ rfl ?_ ?_
  · intro v hv
    simp only [List.mem_cons, List.not_mem_nil, or_false] at hv
    rcases hv with rfl | rfl | rfl <;> rfl
  · intro i v d hv hx
    match i with
    | 0 => simp at hv hx; subst hv; subst hx; exact .int _ _
    | 1 => simp at hv hx; subst hv; subst hx; exact .int _ _
    | 2 => simp at hv hx; subst hv; subst hx; exact .int _ _
    | i + 3 => simp at hv
theorem one_calls {ext : Call} (hext : CallOK Try.prog ext) {x : D} {a b c : Int} {r : List Room} (ev : aev Try.prog ext 60 21 [x] [] = some (spD a b c, r, [])) {W : World} {u : Value} (hg : GOK (old W) W) (hu : Den0 (old W) W u x) :
    Calls Try.prog 21 #[u] W fun e W' => e = .returned (.agg (spV (a, b, c))) ∧ Below W.heap.size W W' := by
  refine (call1 hext ev hg hu).mono ?_
  rintro e w' ⟨⟨v, rfl, hv⟩, hb⟩
  exact ⟨by rw [den_sp (hv (fun _ => 0) fun _ _ => 0)], hb⟩
theorem one1 (nm : List UInt8) : aev Try.prog noExt 60 21 [smp 1 nm []] [] = some (spD 0 0 1, [.no], []) := by kernel_rfl
theorem den_one {c : Nat → Nat} {ν : Nat → Nat → Nat} {F : Nat → Nat → Prop} {w : World} {v : Value} {x : D} (h : Den c ν F w v (.agg [.list [x]])) : Den0 F w v (.agg [.list [x]]) := by
  cases h with
  | pure v d hp => exact hp
  | agg vs _ h1 h2 h3 =>
    refine .agg vs _ h1 h2 (fun i v d a b => ?_)
    match i with
    | 0 =>
      simp only [List.getElem?_cons_zero, Option.some.injEq] at b
      subst b
      exact (h3 0 v _ a rfl).list_
    | i + 1 => simp at b
theorem ext81_ok : CallOK Try.prog ext81 := by
  intro f args pbs d r pbs' h
  unfold ext81 at h
  split at h
  · rename_i x
    split at h
    · rename_i k nm hk
      have hx := leafK_eq hk
      subst hx
      have hgo : ∀ (a b c : Int) (r : List Room), aev Try.prog noExt 60 21 [smp k nm []] [] = some (spD a b c, r, []) → sumS (fun _ : Fin [smp k nm []].length => (a, b, c)) (List.finRange [smp k nm []].length) = (a, b, c) →
          (∃ fn, Try.prog.funcs[11]? = some fn ∧ fn.body.isSome = true) ∧ ∀ (vals : List Value) (w : World) (F : Nat → Nat → Prop) (μ : Mu), vals.length = [cplx [smp k nm []]].length → (∀ (i : Nat) (v : Value) (x : D), vals[i]? = some v → [cplx [smp k nm []]][i]? = some x → Den (fun _ => 1) (argNu μ) F w v x) →
            (∀ (i : Nat) (bx : Bx), ([] : List Bx)[i]? = some bx → BoxAt F w (μ.bl i) bx.cells ∧ bx.gen = 0 ∧ BRooms Try.prog F w (μ.bl i) bx.cells bx.rooms (μ.cl i)) → GivenOK w ([] : List Bx).length μ → Lt F w → GOK F w →
            Calls Try.prog 11 vals.toArray w (Ret Try.prog ([] : List Bx).length μ F w (spD a b c) [] []) := by
        intro a b c r' ev hsum
        refine ⟨⟨_, Try.func11, rfl⟩, fun vals w F μ hl hd _ _ hlt hg => ?_⟩
        match vals, hl with
        | [v], _ =>
          have d0 := (den_one (hd 0 v _ rfl rfl)).ext (ext_old hlt)
          have hgo := gok_ext (ext_old hlt) hg
          refine (spec_den w v [smp k nm []] d0 (fun s hs => by rw [List.mem_singleton.1 hs]; rfl) (by simp) (by simp) (fun _ => (a, b, c)) (fun i W u hB hu => ?_)).mono ?_
          · have hi : [smp k nm []][i] = smp k nm [] := by
              match i with
              | ⟨0, _⟩ => rfl
            rw [hi] at hu
            exact one_calls noExt_ok ev (gok_ext (ext_below hB) hgo) hu
          · rintro e w' ⟨rfl, hb⟩
            rw [hsum]
            exact ret_below (sp_den _ _ _) hlt hb
      split at h
      · rename_i h4
        subst h4
        simp only [Option.some.injEq, Prod.mk.injEq] at h
        obtain ⟨rfl, rfl, rfl⟩ := h
        exact hgo 1 0 0 _ (one4 nm) (by show sumS (fun _ : Fin 1 => _) (List.finRange 1) = _; kernel_rfl)
      · split at h
        · rename_i h1
          subst h1
          simp only [Option.some.injEq, Prod.mk.injEq] at h
          obtain ⟨rfl, rfl, rfl⟩ := h
          exact hgo 0 0 1 _ (one1 nm) (by show sumS (fun _ : Fin 1 => _) (List.finRange 1) = _; kernel_rfl)
        · cases h
    · cases h
  · cases h
end Go.Av
namespace Go.Av
structure Sf where
  kd : Int
  ns : Int
  pre : List UInt8
  nm : List UInt8
  op : Int
  tx : List UInt8
  fold : Bool
  mark : Int
  a : Int
  b : Int
  of_ : List D
def Sf.d (s : Sf) : D := .agg [.int .i64 s.kd, .int .i64 s.ns, .str s.pre, .str s.nm, .int .i64 s.op, .str s.tx, .bool s.fold, .int .i64 s.mark, .int .i64 s.a, .int .i64 s.b, .list s.of_]
def sf : D → Sf
  | .agg [.int .i64 kd, .int .i64 ns, .str pre, .str nm, .int .i64 op, .str tx, .bool fold, .int .i64 mark, .int .i64 a, .int .i64 b, .list of_] => ⟨kd, ns, pre, nm, op, tx, fold, mark, a, b, of_⟩
  | _ => ⟨0, 0, [], [], 0, [], false, 0, 0, 0, []⟩
def cpD (c : Int) (l : List D) : D := .agg [.int .i64 c, .list l]
def cxD (l : List D) : D := .agg [.list l]
def cpC : D → Int
  | .agg [.int .i64 c, .list _] => c
  | _ => 0
def cpL : D → List D
  | .agg [.int .i64 _, .list l] => l
  | _ => []
def cxL : D → List D
  | .agg [.list l] => l
  | _ => []
def lenB (m : Nat) (l : List D) : Bool := decide (l.length ≤ m)
def cpOk (m : Nat) (S : D → Bool) : D → Bool
  | .agg [.int .i64 _, .list l] => lenB m l && l.all S
  | _ => false
def cxOk (m : Nat) (S : D → Bool) : D → Bool
  | .agg [.list l] => lenB m l && l.all (cpOk m S)
  | _ => false
def lsOk (m : Nat) (S : D → Bool) (l : List D) : Bool := lenB m l && l.all (cxOk m S)
def smOk (m : Nat) : Nat → D → Bool
  | 0, _ => false
  | k + 1, .agg [.int .i64 _, .int .i64 _, .str pre, .str nm, .int .i64 _, .str tx, .bool _, .int .i64 _, .int .i64 _, .int .i64 _, .list of_] =>
    decide (pre.length ≤ m) && decide (nm.length ≤ m) && decide (tx.length ≤ m) && lsOk m (smOk m k) of_
  | _ + 1, _ => false
theorem cpOk_inv {m : Nat} {S : D → Bool} {d : D} (h : cpOk m S d = true) : ∃ c l, d = cpD c l ∧ l.length ≤ m ∧ ∀ s ∈ l, S s = true := by
  unfold cpOk at h
  split at h
  · rename_i c l
    simp only [lenB, Bool.and_eq_true, decide_eq_true_eq, List.all_eq_true] at h
    exact ⟨c, l, rfl, h.1, h.2⟩
  · cases h
theorem cxOk_inv {m : Nat} {S : D → Bool} {d : D} (h : cxOk m S d = true) : ∃ l, d = cxD l ∧ l.length ≤ m ∧ ∀ x ∈ l, cpOk m S x = true := by
  unfold cxOk at h
  split at h
  · rename_i l
    simp only [lenB, Bool.and_eq_true, decide_eq_true_eq, List.all_eq_true] at h
    exact ⟨l, rfl, h.1, h.2⟩
  · cases h
theorem smOk_inv {m k : Nat} {d : D} (h : smOk m (k + 1) d = true) : d = (sf d).d ∧ (sf d).pre.length ≤ m ∧ (sf d).nm.length ≤ m ∧ (sf d).tx.length ≤ m ∧ lsOk m (smOk m k) (sf d).of_ = true := by
  unfold smOk at h
  split at h
  · cases ‹_ = _›
  · rename_i e
    cases e
    simp only [Bool.and_eq_true, decide_eq_true_eq] at h
    exact ⟨rfl, h.1.1.1, h.1.1.2, h.1.2, h.2⟩
  · cases h
theorem lsOk_mem {m : Nat} {S : D → Bool} {l : List D} (h : lsOk m S l = true) : l.length ≤ m ∧ ∀ c ∈ l, cxOk m S c = true := by
  unfold lsOk lenB at h
  simpa [List.all_eq_true] using h
theorem lsOk_s {m : Nat} {S : D → Bool} {l : List D} (h : lsOk m S l = true) : ∀ c ∈ l, ∀ x ∈ cxL c, ∀ s ∈ cpL x, S s = true := by
  intro c hc x hx s hs
  obtain ⟨l1, rfl, _, h1⟩ := cxOk_inv ((lsOk_mem h).2 c hc)
  obtain ⟨k, l2, rfl, _, h2⟩ := cpOk_inv (h1 x hx)
  exact h2 s hs
theorem smOk_up {m : Nat} : ∀ (k : Nat) (d : D), smOk m k d = true → ∀ j, k ≤ j → smOk m j d = true
  | 0, d, h, _, _ => by simp [smOk] at h
  | k + 1, d, h, 0, hj => absurd hj (by omega)
  | k + 1, d, h, j + 1, hj => by
    obtain ⟨e, h1, h2, h3, h4⟩ := smOk_inv h
    rw [e]
    show (decide ((sf d).pre.length ≤ m) && decide ((sf d).nm.length ≤ m) && decide ((sf d).tx.length ≤ m) && lsOk m (smOk m j) (sf d).of_) = true
    simp only [Bool.and_eq_true, decide_eq_true_eq]
    refine ⟨⟨⟨h1, h2⟩, h3⟩, ?_⟩
    obtain ⟨g1, g2⟩ := lsOk_mem h4
    simp only [lsOk, lenB, Bool.and_eq_true, decide_eq_true_eq, List.all_eq_true]
    refine ⟨g1, fun c hc => ?_⟩
    obtain ⟨l1, rfl, f1, f2⟩ := cxOk_inv (g2 c hc)
    simp only [cxD, cxOk, lenB, Bool.and_eq_true, decide_eq_true_eq, List.all_eq_true]
    refine ⟨f1, fun x hx => ?_⟩
    obtain ⟨y, l2, rfl, f3, f4⟩ := cpOk_inv (f2 x hx)
    simp only [cpD, cpOk, lenB, Bool.and_eq_true, decide_eq_true_eq, List.all_eq_true]
    exact ⟨f3, fun s hs => smOk_up k s (f4 s hs) j (by omega)⟩
theorem cp_mono {m : Nat} {S S' : D → Bool} (h : ∀ d, S d = true → S' d = true) {x : D} (hx : cpOk m S x = true) : cpOk m S' x = true := by
  obtain ⟨c, l, rfl, h1, h2⟩ := cpOk_inv hx
  simp only [cpD, cpOk, lenB, Bool.and_eq_true, decide_eq_true_eq, List.all_eq_true]
  exact ⟨h1, fun s hs => h s (h2 s hs)⟩
theorem cx_mono {m : Nat} {S S' : D → Bool} (h : ∀ d, S d = true → S' d = true) {x : D} (hx : cxOk m S x = true) : cxOk m S' x = true := by
  obtain ⟨l, rfl, h1, h2⟩ := cxOk_inv hx
  simp only [cxD, cxOk, lenB, Bool.and_eq_true, decide_eq_true_eq, List.all_eq_true]
  exact ⟨h1, fun s hs => cp_mono h (h2 s hs)⟩
theorem ls_mono {m : Nat} {S S' : D → Bool} (h : ∀ d, S d = true → S' d = true) {l : List D} (hx : lsOk m S l = true) : lsOk m S' l = true := by
  obtain ⟨h1, h2⟩ := lsOk_mem hx
  simp only [lsOk, lenB, Bool.and_eq_true, decide_eq_true_eq, List.all_eq_true]
  exact ⟨h1, fun s hs => cx_mono h (h2 s hs)⟩
end Go.Av
namespace Go.Proofs.Ytjoogeabdjdleaa
open Go.RowKit

def Bk (w : World) (g : Nat) (t : TypeId) (cs : Array Value) : Prop := w.heap[g]? = some (.cells cs t (0, 0))

def Sl (w : World) (B : Nat) (a : Option Addr) (xs : List Value) : Prop :=
  xs ≠ [] → ∃ b off, a = some ⟨b, off, none⟩ ∧ b < B ∧ ∀ i (h : i < xs.length), w.cell? ⟨b, off + i, none⟩ = some xs[i]

section
variable {w w' : World} {g : Nat} {t : TypeId} {cs : Array Value}

theorem Bk.lt (h : Bk w g t cs) : g < w.heap.size := by
  apply Classical.byContradiction
  intro hn
  have : w.heap[g]? = none := Array.getElem?_eq_none (by omega)
  unfold Bk at h
  rw [this] at h
  cases h
theorem Bk.cell (h : Bk w g t cs) (i : Nat) : w.cell? ⟨g, i, none⟩ = cs[i]? := cell_of_row w g i cs t (0, 0) h
theorem Bk.free (h : Bk w g t cs) (i : Nat) : w.frozen? ⟨g, i, none⟩ = false := frozen_of_row w g i cs t h
theorem Bk.new (w : World) (t : TypeId) (cs : Array Value) : Bk (w.alloc (.cells cs t)) w.heap.size t cs := heap_alloc_new w _
theorem Bk.put (h : Bk w g t cs) (i : Nat) (u : Value) : Bk (w.setCell ⟨g, i, none⟩ u) g t (cs.setIfInBounds i u) := heap_setCell_same w g i cs t u h
theorem Bk.below {B : Nat} (h : Bk w g t cs) (hb : Below B w w') (hg : g < B) : Bk w' g t cs := (hb.block g hg).trans h
theorem Bk.grown {row : Option Nat} (h : Bk w g t cs) (hb : w.grownBy w' row) (hg : some g ≠ row) : Bk w' g t cs := (hb.block g h.lt hg).trans h
theorem Bk.drew (h : Bk w g t cs) : Bk w.drew g t cs := h
theorem Bk.drewN (h : Bk w g t cs) (n : Nat) : Bk (w.drewN n) g t cs := h
theorem Bk.alloc (h : Bk w g t cs) (o : Obj) : Bk (w.alloc o) g t cs := (Below.heap_alloc w o g h.lt).trans h
theorem Bk.other (h : Bk w g t cs) {p : Addr} (hp : g ≠ p.block) (u : Value) : Bk (w.setCell p u) g t cs := (Below.heap_setCell w p u g hp).trans h

theorem below_drewN {B : Nat} {a : World} (h : Below B a w) (n : Nat) : Below B a (w.drewN n) := ⟨h.os, h.tape, h.output, h.size, h.block⟩
theorem below_of_grown {r : Option Nat} (h : w.grownBy w' r) {B : Nat} (hB : B ≤ w.heap.size) (hr : ∀ k, r = some k → B ≤ k) : Below B w w' :=
  (Below.refl B w).grown h hB hr

theorem below_cells {B : Nat} (hb : Below B w w') : (∀ b o, b < B → w'.cell? ⟨b, o, none⟩ = w.cell? ⟨b, o, none⟩) ∧ (∀ b o, b < B → w'.frozen? ⟨b, o, none⟩ = w.frozen? ⟨b, o, none⟩) :=
  ⟨fun b o h => hb.cell (p := ⟨b, o, none⟩) h, fun b o h => hb.frozen (p := ⟨b, o, none⟩) h⟩
end

section
variable {w w' : World} {B B' : Nat} {a : Option Addr} {xs : List Value}

theorem Sl.nil : Sl w B a [] := fun h => absurd rfl h
theorem Sl.keep (h : Sl w B a xs) (hk : ∀ b o, b < B → w'.cell? ⟨b, o, none⟩ = w.cell? ⟨b, o, none⟩) : Sl w' B a xs := fun hne => by
  obtain ⟨b, off, e, hb, hc⟩ := h hne
  exact ⟨b, off, e, hb, fun i hi => (hk b _ hb).trans (hc i hi)⟩
theorem Sl.mono (h : Sl w B a xs) (hB : B ≤ B') : Sl w B' a xs := fun hne => by
  obtain ⟨b, off, e, hb, hc⟩ := h hne
  exact ⟨b, off, e, Nat.lt_of_lt_of_le hb hB, hc⟩
theorem Sl.below (h : Sl w B a xs) (hb : Below B w w') : Sl w' B a xs := h.keep (below_cells hb).1
theorem Sl.drew (h : Sl w B a xs) : Sl w.drew B a xs := h
theorem Sl.drewN (h : Sl w B a xs) (n : Nat) : Sl (w.drewN n) B a xs := h
theorem Sl.alloc (h : Sl w B a xs) (hB : B ≤ w.heap.size) (o : Obj) : Sl (w.alloc o) B a xs := h.below ((Below.refl B w).alloc hB o)
theorem Sl.open_ (h : Sl w B a xs) {k : Nat} (hk : k < xs.length) : ∃ b off, a = some ⟨b, off, none⟩ ∧ b < B ∧ ∀ i (h : i < xs.length), w.cell? ⟨b, off + i, none⟩ = some xs[i] :=
  h (by intro e; subst e; simp at hk)
theorem Sl.of_own {base size n c : Nat} {e : TypeId} (h : w.ownsRow base e size (.slice a n c) n xs) : Sl w w.heap.size a xs := fun hne => by
  rcases h.2 with ⟨hv, hn⟩ | ⟨g, cap, cur, hv, _, hg, _, _, hsz, htake⟩
  · subst hn
    have := h.1
    simp at this
    exact absurd this hne
  · have ha : a = some ⟨g, 0, none⟩ := by injection hv
    subst ha
    refine ⟨g, 0, rfl, Bk.lt hg, fun i hi => ?_⟩
    rw [Nat.zero_add, Bk.cell hg i]
    have hx : xs[i] = (cur.toList.take (n * size))[i]'(by rw [htake]; exact hi) := by simp only [htake]
    rw [hx, List.getElem_take]
    simp
theorem Sl.lit (w : World) (t : TypeId) (cs : Array Value) : Sl (w.alloc (.cells cs t)) (w.heap.size + 1) (some ⟨w.heap.size, 0, none⟩) cs.toList := fun _ =>
  ⟨w.heap.size, 0, rfl, Nat.lt_succ_self _, fun i hi => by rw [Nat.zero_add, (Bk.new w t cs).cell i]; simp at hi; simp [hi]⟩
theorem Sl.cut (h : Sl w B a xs) {k cap n : Nat} (hk : k ≤ n) (hn : xs.length = n) (hc : n ≤ cap) : Sl w B (if cap = k then a else a.map (·.add k)) (xs.drop k) := fun hne => by
  have hlt : k < n := by
    apply Classical.byContradiction
    intro hge
    exact hne (List.drop_eq_nil_of_le (by omega))
  obtain ⟨b, off, rfl, hb, hcell⟩ := h.open_ (k := k) (by omega)
  rw [if_neg (by omega)]
  refine ⟨b, off + k, ?_, hb, fun i hi => ?_⟩
  · simp [Addr.add]
  · rw [Nat.add_assoc, List.getElem_drop]
    exact hcell (k + i) (by simp at hi; omega)
theorem Sl.take (h : Sl w B a xs) (k : Nat) : Sl w B a (xs.take k) := fun hne => by
  have hne' : xs ≠ [] := by intro e; subst e; simp at hne
  obtain ⟨b, off, e, hb, hc⟩ := h hne'
  refine ⟨b, off, e, hb, fun i hi => ?_⟩
  rw [List.getElem_take]
  exact hc i (by simp at hi; omega)
end

def Qt (w w' : World) : Prop := ∃ n, w' = w.drewN n
section
variable {w w' : World}
theorem Qt.refl (w : World) : Qt w w := ⟨0, rfl⟩
theorem Qt.drewN (h : Qt w w') (n : Nat) : Qt w (w'.drewN n) := by
  obtain ⟨m, rfl⟩ := h
  exact ⟨m + n, by simp [World.drewN, Nat.add_assoc]⟩
theorem Qt.drew (h : Qt w w') : Qt w w'.drew := by
  obtain ⟨m, rfl⟩ := h
  exact ⟨m + 1, rfl⟩
theorem Qt.cell (h : Qt w w') (a : Addr) : w'.cell? a = w.cell? a := by
  obtain ⟨m, rfl⟩ := h
  rfl
theorem Qt.frozen (h : Qt w w') (a : Addr) : w'.frozen? a = w.frozen? a := by
  obtain ⟨m, rfl⟩ := h
  rfl
theorem Qt.heap (h : Qt w w') : w'.heap = w.heap := by
  obtain ⟨m, rfl⟩ := h
  rfl
theorem Qt.below (h : Qt w w') {B : Nat} : Below B w w' := by
  obtain ⟨m, rfl⟩ := h
  exact below_drewN (Below.refl B w) m
theorem Qt.grown (h : Qt w w') : w.grownBy w' none := by
  obtain ⟨m, rfl⟩ := h
  exact ⟨rfl, rfl, rfl, Nat.le_refl _, fun _ _ _ => rfl⟩
theorem Qt.trans {w'' : World} (h : Qt w w') (h' : Qt w' w'') : Qt w w'' := by
  obtain ⟨m, rfl⟩ := h'
  exact h.drewN m
end

theorem addr_add (b off j : Nat) : (⟨b, off, none⟩ : Addr).add j = ⟨b, off + j, none⟩ := by
  by_cases h : j = 0
  · subst h; simp [Addr.add]
  · simp [Addr.add, h]
theorem Sl.int {w : World} {B : Nat} {a : Option Addr} {k : IntKind} {zs : List Int} (h : Sl w B a (zs.map (Value.int k))) {i : Nat} (hi : i < zs.length) :
    ∃ b off, a = some ⟨b, off, none⟩ ∧ b < B ∧ ∀ j, j < zs.length → w.cell? ⟨b, off + j, none⟩ = some (.int k (zs.getD j 0)) := by
  obtain ⟨b, off, e, hb, hc⟩ := h.open_ (k := i) (by simpa using hi)
  refine ⟨b, off, e, hb, fun j hj => ?_⟩
  rw [hc j (by simpa using hj)]
  simp [hj]
end Go.Proofs.Ytjoogeabdjdleaa
namespace Go.Proofs.Ytjoogeabdjdleaa
open Go.RowKit

def EI (P : Program) (t e : TypeId) (size bytes : Nat) : Prop :=
  ∃ i z, P.underlying t = some (.slice e) ∧ P.info? e = some i ∧ i.zero = some z ∧ i.size = size ∧ i.bytes = bytes ∧ z.cells.size = size ∧ 0 < size

theorem EI.mk {P : Program} {t e : TypeId} {z : Value} {size bytes : Nat} (ht : P.underlying t = some (.slice e)) (h : (P.info? e).map (fun i => (i.zero, i.size, i.bytes)) = some (some z, size, bytes)) (hz : z.cells.size = size) (hs : 0 < size) : EI P t e size bytes := by
  obtain ⟨i, hi, h0, h1, h2⟩ := info_parts h
  exact ⟨i, z, ht, hi, h0, h1, h2, hz, hs⟩

section
variable {P : Program} {ops : Array Oper} {rest : List Oper} {o : Oper} {a : Act} {Q : Exit → Act → World → Prop}

def OwnR (w : World) (base : Nat) (e : TypeId) (size : Nat) (v : Value) (n : Nat) (xs : List Value) : Prop :=
  (n = 0 ∧ xs = [] ∧ ∃ A, v = .slice A 0 0) ∨ w.ownsRow base e size v n xs
end
end Go.Proofs.Ytjoogeabdjdleaa
namespace Go.Proofs.Ytjoogeabdjdleaa
open Go.RowKit

def OwnL (w : World) (base : Nat) (e : TypeId) (k : IntKind) (v : Value) (l : List Int) : Prop := OwnR w base e 1 v l.length (l.map (Value.int k))

section
variable {w w' : World} {base : Nat} {e : TypeId} {size n : Nat} {v : Value} {xs : List Value}
theorem OwnR.form (h : OwnR w base e size v n xs) : ∃ a c, v = .slice a n c ∧ n ≤ c ∧ xs.length = n * size ∧ Sl w w.heap.size a xs := by
  rcases h with ⟨rfl, rfl, A, rfl⟩ | h
  · exact ⟨A, 0, rfl, Nat.le_refl _, by simp, Sl.nil⟩
  · have h' := h
    rcases h.2 with ⟨hv, hn⟩ | ⟨g, cap, cur, hv, _, hg, h1, _, _, htake⟩
    · subst hn
      have : xs = [] := List.length_eq_zero_iff.1 (by simpa using h.1)
      subst this
      exact ⟨none, 0, hv, Nat.le_refl _, by simp, Sl.nil⟩
    · refine ⟨_, cap, hv, h1, h.1, ?_⟩
      rw [hv] at h'
      exact Sl.of_own h'
theorem OwnR.alloc (h : OwnR w base e size v n xs) (o : Obj) : OwnR (w.alloc o) base e size v n xs := h.imp id fun h => World.ownsRow.alloc h o
theorem OwnR.drew (h : OwnR w base e size v n xs) : OwnR w.drew base e size v n xs := h
theorem OwnR.drewN (h : OwnR w base e size v n xs) (m : Nat) : OwnR (w.drewN m) base e size v n xs := h
theorem OwnR.grown {row : Option Nat} (h : OwnR w base e size v n xs) (hg : w.grownBy w' row) (hne : v.ownBlock = none ∨ v.ownBlock ≠ row) : OwnR w' base e size v n xs := h.imp id fun h => World.ownsRow.kept h hg hne
theorem OwnR.below (h : OwnR w base e size v n xs) (hb : Below w.heap.size w w') : OwnR w' base e size v n xs := by
  refine h.imp id fun h => ⟨h.1, ?_⟩
  rcases h.2 with h1 | ⟨g, cap, cur, hv, hb0, hg, h1⟩
  · exact .inl h1
  · exact .inr ⟨g, cap, cur, hv, hb0, Bk.below hg hb (Bk.lt hg), h1⟩
theorem OwnR.mono {base' : Nat} (h : OwnR w base e size v n xs) (hb : base' ≤ base) : OwnR w base' e size v n xs := by
  refine h.imp id fun h => ⟨h.1, ?_⟩
  rcases h.2 with h1 | ⟨g, cap, cur, hv, hb0, h1⟩
  · exact .inl h1
  · exact .inr ⟨g, cap, cur, hv, by omega, h1⟩
theorem OwnR.zero (w : World) (base : Nat) (e : TypeId) (size : Nat) (A : Option Addr) : OwnR w base e size (.slice A 0 0) 0 [] := .inl ⟨rfl, rfl, A, rfl⟩
end

section
variable {w w' : World} {base : Nat} {e : TypeId} {k : IntKind} {v : Value} {l : List Int}
theorem OwnL.form (h : OwnL w base e k v l) : ∃ a c, v = .slice a l.length c ∧ l.length ≤ c ∧ Sl w w.heap.size a (l.map (Value.int k)) := by
  obtain ⟨a, c, h1, h2, _, h3⟩ := OwnR.form h
  exact ⟨a, c, h1, h2, h3⟩
theorem OwnL.sl {a : Option Addr} {n c : Nat} (h : OwnL w base e k (.slice a n c) l) : Sl w w.heap.size a (l.map (Value.int k)) := by
  obtain ⟨a', c', hv, _, hs⟩ := h.form
  injection hv with h1 h2 h3
  subst h1
  exact hs
theorem OwnL.len {a : Option Addr} {n c : Nat} (h : OwnL w base e k (.slice a n c) l) : n = l.length ∧ l.length ≤ c := by
  obtain ⟨a', c', hv, hc, _⟩ := h.form
  injection hv with h1 h2 h3
  subst h3
  exact ⟨h2, hc⟩
theorem OwnL.alloc (h : OwnL w base e k v l) (o : Obj) : OwnL (w.alloc o) base e k v l := OwnR.alloc h o
theorem OwnL.drew (h : OwnL w base e k v l) : OwnL w.drew base e k v l := h
theorem OwnL.drewN (h : OwnL w base e k v l) (n : Nat) : OwnL (w.drewN n) base e k v l := h
theorem OwnL.grown {row : Option Nat} (h : OwnL w base e k v l) (hg : w.grownBy w' row) (hne : v.ownBlock = none ∨ v.ownBlock ≠ row) : OwnL w' base e k v l := OwnR.grown h hg hne
theorem OwnL.below (h : OwnL w base e k v l) (hb : Below w.heap.size w w') : OwnL w' base e k v l := OwnR.below h hb
theorem OwnL.mono {base' : Nat} (h : OwnL w base e k v l) (hb : base' ≤ base) : OwnL w base' e k v l := OwnR.mono h hb
theorem OwnL.nil (w : World) (base : Nat) (e : TypeId) (k : IntKind) (A : Option Addr) : OwnL w base e k (.slice A 0 0) [] := OwnR.zero w base e 1 A
end

def RetL (k : IntKind) (w : World) (l : List Int) (e : Ending) (w' : World) : Prop :=
  ∃ a c, e = .returned (.slice a l.length c) ∧ l.length ≤ c ∧ Sl w' w'.heap.size a (l.map (Value.int k)) ∧ Below w.heap.size w w'
theorem RetL.of {k : IntKind} {w w' : World} {l : List Int} {e : Ending} {base : Nat} {t : TypeId} {v : Value} (he : e = .returned v) (ho : OwnL w' base t k v l) (hb : Below w.heap.size w w') : RetL k w l e w' := by
  obtain ⟨a, c, rfl, hc, hs⟩ := ho.form
  exact ⟨a, c, he, hc, hs, hb⟩
section
variable {P : Program} {ops : Array Oper} {rest : List Oper} {o : Oper} {a : Act} {Q : Exit → Act → World → Prop}
end
end Go.Proofs.Ytjoogeabdjdleaa
namespace Go.Av
open Go.Proofs Go.RowKit Go.Proofs.Ytjoogeabdjdleaa
def nw (F : Nat → Nat → Prop) (w w' : World) : Nat → Nat → Prop := fun b o => F b o ∨ (w.heap.size ≤ b ∧ b < w'.heap.size)
theorem ext_nw {F : Nat → Nat → Prop} {w w' : World} (hlt : Lt F w) (hb : Below w.heap.size w w') : Ext (fun _ => False) F w (nw F w w') w' := by
  refine ⟨hb.os, hb.tape, hb.output, hb.size, fun b h _ => hb.block b h, fun b o h => .inl h, fun b o h => ?_, fun b es c hf hm => (hb.block b (hlt b 0 hf)).trans hm⟩
  unfold World.cell?
  rw [hb.block b (hlt b o h)]
theorem lt_nw {F : Nat → Nat → Prop} {w w' : World} (hlt : Lt F w) (hb : Below w.heap.size w w') : Lt (nw F w w') w' := by
  rintro b o (h | h)
  · exact Nat.lt_of_lt_of_le (hlt b o h) hb.size
  · exact h.2
theorem Den0.grow {F F' : Nat → Nat → Prop} {w : World} {v : Value} {d : D} (h : Den0 F w v d) (hF : ∀ b o, F b o → F' b o) : Den0 F' w v d :=
  h.ext (S := fun _ => False) ⟨rfl, rfl, rfl, Nat.le_refl _, fun _ _ _ => rfl, hF, fun _ _ _ => rfl, fun _ _ _ _ hm => hm⟩
def RetD (F : Nat → Nat → Prop) (w : World) (d : D) (e : Ending) (w' : World) : Prop := ∃ v, e = .returned v ∧ Below w.heap.size w w' ∧ ∀ c ν, Den c ν (nw F w w') w' v d
theorem RetD.ret [Gs] {P : Program} {μ : Mu} {F : Nat → Nat → Prop} {w w' : World} {d : D} {e : Ending} (hlt : Lt F w) (h : RetD F w d e w') : Ret P 0 μ F w d [] [] e w' := by
  obtain ⟨v, rfl, hb, hv⟩ := h
  refine ⟨v, nw F w w', fun _ _ => none, rfl, (ext_nw hlt hb).weaken (fun _ _ h => h.elim), lt_nw hlt hb, fun b o h => h.imp id fun h => .inl h.1, .inl ⟨rfl, hv, rooms_nil⟩, fun j i g h => ?_, fun j i j' i' g h => ?_, fun i bx hi => absurd hi (Nat.not_lt_zero i)⟩
  · cases h
  · cases h
theorem RetD.of {F : Nat → Nat → Prop} {w w' : World} {v : Value} {d : D} (hb : Below w.heap.size w w') (hv : Den0 (nw F w w') w' v d) : RetD F w d (.returned v) w' := ⟨v, rfl, hb, fun _ _ => .pure _ _ hv⟩
theorem Ret.retD [Gs] {P : Program} {μ : Mu} {F : Nat → Nat → Prop} {w w' : World} {d : D} {r : List Room} {e : Ending} (h : Ret P 0 μ F w d r [] e w') : RetD F w d e w' := by
  obtain ⟨v, F', nc, rfl, hE, hlt, hn, hv, _⟩ := h
  refine ⟨v, rfl, ⟨hE.os, hE.tape, hE.output, hE.size, fun b hb => hE.block b hb (S_zero _ b)⟩, ?_⟩
  rcases hv with ⟨_, hv, _⟩ | ⟨h1, _⟩
  · exact fun c ν => (hv c ν).ext (S := fun _ => False) ⟨rfl, rfl, rfl, Nat.le_refl _, fun _ _ _ => rfl, fun b o h => (hn b o h).imp id fun h' => ⟨h'.resolve_right (C_zero _ b), hlt b o h⟩, fun _ _ _ => rfl, fun _ _ _ _ hm => hm⟩
  · simp at h1
theorem list_sl {F : Nat → Nat → Prop} {w : World} {v : Value} {es : List D} {sz : Nat} (hlt : Lt F w) (h : Den0 F w v (.list es)) (hs : ∀ e ∈ es, (dcells e).length = sz) :
    ∃ a c vs, v = .slice a es.length c ∧ es.length ≤ c ∧ vs.length = es.length * sz ∧ Sl w w.heap.size a vs ∧ (∀ u ∈ vs, u.oneCell' = true) ∧ ∀ (i : Nat) (v : Value) (x : D), vs[i]? = some v → (flat es)[i]? = some x → Den0 F w v x := by
  cases h with
  | list a n c sz' es vs h1 h2 h3 h4 h5 h6 h7 =>
    subst h1
    have hl : vs.length = es.length * sz := by
      rcases es with _ | ⟨e0, r0⟩
      · simpa using h5
      · rw [h5, ← h4 e0 (by simp), ← hs e0 (by simp)]
    refine ⟨a, c, vs, rfl, h2, hl, ?_, ?_, h7⟩
    · intro hne
      rcases h6 with h6 | ⟨b, off, ha, hc⟩
      · exact absurd h6 hne
      · refine ⟨b, off, ha, ?_, fun i hi => (hc i _ (List.getElem?_eq_getElem hi)).2.1⟩
        have := (hc 0 _ (List.getElem?_eq_getElem (List.length_pos_iff.2 hne))).1
        exact hlt _ _ this
    · intro u hu
      rcases h6 with h6 | ⟨b, off, ha, hc⟩
      · rw [h6] at hu; cases hu
      · obtain ⟨i, hi⟩ := List.mem_iff_getElem?.1 hu
        exact (hc i _ hi).2.2
def noPtr : D → Bool
  | .int _ _ | .str _ | .bool _ | .con _ => true
  | _ => false
theorem noPtr_den {F F' : Nat → Nat → Prop} {w w' : World} {v : Value} {x : D} (hx : noPtr x = true) (h : Den0 F w v x) : Den0 F' w' v x := by
  cases h with
  | int k n => exact .int k n
  | str l => exact .str l
  | bool b => exact .bool b
  | con v h => exact .con v h
  | list => cases hx
  | agg => cases hx
  | fix => cases hx
  | iface => cases hx
  | func => cases hx
  | imap => cases hx
def Keep (F G : Nat → Nat → Prop) (w : World) (es : List D) : Prop := ∀ (W : World) (v : Value) (x : D), x ∈ flat es → Below w.heap.size w W → Den0 F w v x → Den0 (nw G w W) W v x
theorem Keep.leaf {F G : Nat → Nat → Prop} {w : World} {es : List D} (h : ∀ x ∈ flat es, noPtr x = true) : Keep F G w es := fun W v x hx _ hd => noPtr_den (h x hx) hd
end Go.Av
namespace Go.Av
open Go.Proofs Go.RowKit Go.Proofs.Ytjoogeabdjdleaa
section
variable (S : Nat → Prop) (w : World)
def RowS (t : TypeId) (sz : Nat) (u : Value) (n : Nat) (E : Array Value → Prop) : Prop :=
  ∃ A C, u = .slice A n C ∧ n ≤ C ∧ C ≤ maxLen ∧ n ≤ 1000000 ∧ (n = 0 ∨ ∃ g cur, A = some ⟨g, 0, none⟩ ∧ S g ∧ Bk w g t cur ∧ n * sz ≤ cur.size ∧ E cur)
def SmR (Q : Value → List D → Prop) (cur : Array Value) (i : Nat) (s : D) : Prop :=
  s = (sf s).d ∧ (cur[i * 11]? = some (.int .i64 (sf s).kd) ∧ cur[i * 11 + 1]? = some (.int .i64 (sf s).ns) ∧ cur[i * 11 + 2]? = some (.string ⟨(sf s).pre.toArray⟩) ∧ cur[i * 11 + 3]? = some (.string ⟨(sf s).nm.toArray⟩) ∧
    cur[i * 11 + 4]? = some (.int .i64 (sf s).op) ∧ cur[i * 11 + 5]? = some (.string ⟨(sf s).tx.toArray⟩) ∧ cur[i * 11 + 6]? = some (.bool (sf s).fold) ∧ cur[i * 11 + 7]? = some (.int .i64 (sf s).mark) ∧
    cur[i * 11 + 8]? = some (.int .i64 (sf s).a) ∧ cur[i * 11 + 9]? = some (.int .i64 (sf s).b)) ∧ ∃ o, cur[i * 11 + 10]? = some o ∧ Q o (sf s).of_
def CpR (Q : Value → List D → Prop) (cur : Array Value) (i : Nat) (x : D) : Prop :=
  x = cpD (cpC x) (cpL x) ∧ cur[i * 2]? = some (.int .i64 (cpC x)) ∧ ∃ u, cur[i * 2 + 1]? = some u ∧ RowS S w 37 11 u (cpL x).length fun c => ∀ j s, (cpL x)[j]? = some s → SmR Q c j s
def CxR (Q : Value → List D → Prop) (cur : Array Value) (i : Nat) (c : D) : Prop :=
  c = cxD (cxL c) ∧ ∃ u, cur[i]? = some u ∧ RowS S w 46 2 u (cxL c).length fun d => ∀ j x, (cxL c)[j]? = some x → CpR S w Q d j x
def LsR (Q : Value → List D → Prop) (u : Value) (l : List D) : Prop :=
  RowS S w 30 1 u l.length fun d => ∀ j c, l[j]? = some c → CxR S w Q d j c
def SpO : Nat → Value → List D → Prop
  | 0, u, l => l = [] ∧ ∃ A C, u = .slice A 0 C ∧ C ≤ maxLen
  | k + 1, u, l => LsR S w (SpO k) u l
end
section
variable {S S' : Nat → Prop} {w w' : World}
theorem RowS.mono {t : TypeId} {sz n : Nat} {u : Value} {E E' : Array Value → Prop} (h : RowS S w t sz u n E) (hS : ∀ b, S b → S' b) (hw : ∀ b, S b → w'.heap[b]? = w.heap[b]?) (hE : ∀ cur, E cur → E' cur) : RowS S' w' t sz u n E' := by
  obtain ⟨A, C, rfl, h1, h2, h3, h⟩ := h
  refine ⟨A, C, rfl, h1, h2, h3, h.imp id ?_⟩
  rintro ⟨g, cur, rfl, h4, h5, h6, h7⟩
  exact ⟨g, cur, rfl, hS g h4, (hw g h4).trans h5, h6, hE _ h7⟩
theorem SmR.mono {Q Q' : Value → List D → Prop} (hQ : ∀ u l, Q u l → Q' u l) {cur : Array Value} {i : Nat} {s : D} (h : SmR Q cur i s) : SmR Q' cur i s := by
  obtain ⟨h1, h2, o, h3, h4⟩ := h
  exact ⟨h1, h2, o, h3, hQ _ _ h4⟩
theorem LsR.mono {Q Q' : Value → List D → Prop} (hQ : ∀ u l, Q u l → Q' u l) (hS : ∀ b, S b → S' b) (hw : ∀ b, S b → w'.heap[b]? = w.heap[b]?) {u : Value} {l : List D} (h : LsR S w Q u l) : LsR S' w' Q' u l :=
  RowS.mono h hS hw fun cur h j c hc => by
    obtain ⟨e, u, hu, h⟩ := h j c hc
    refine ⟨e, u, hu, RowS.mono h hS hw fun cur h j x hx => ?_⟩
    obtain ⟨e, h1, u, hu, h⟩ := h j x hx
    exact ⟨e, h1, u, hu, RowS.mono h hS hw fun cur h j s hs => (h j s hs).mono hQ⟩
theorem SpO.mono : ∀ {k : Nat} {u : Value} {l : List D}, (∀ b, S b → S' b) → (∀ b, S b → w'.heap[b]? = w.heap[b]?) → SpO S w k u l → SpO S' w' k u l
  | 0, _, _, _, _, h => h
  | k + 1, _, _, hS, hw, h => LsR.mono (fun _ _ h => SpO.mono (k := k) hS hw h) hS hw h
theorem CpR.mono {Q Q' : Value → List D → Prop} (hQ : ∀ u l, Q u l → Q' u l) (hS : ∀ b, S b → S' b) (hw : ∀ b, S b → w'.heap[b]? = w.heap[b]?) {cur : Array Value} {i : Nat} {x : D} (h : CpR S w Q cur i x) : CpR S' w' Q' cur i x := by
  obtain ⟨e, h1, u, hu, h⟩ := h
  exact ⟨e, h1, u, hu, RowS.mono h hS hw fun cur h j s hs => (h j s hs).mono hQ⟩
theorem CxR.mono {Q Q' : Value → List D → Prop} (hQ : ∀ u l, Q u l → Q' u l) (hS : ∀ b, S b → S' b) (hw : ∀ b, S b → w'.heap[b]? = w.heap[b]?) {cur : Array Value} {i : Nat} {c : D} (h : CxR S w Q cur i c) : CxR S' w' Q' cur i c := by
  obtain ⟨e, u, hu, h⟩ := h
  exact ⟨e, u, hu, RowS.mono h hS hw fun cur h j x hx => (h j x hx).mono hQ hS hw⟩
theorem SmR.cells {Q : Value → List D → Prop} {cur cur' : Array Value} {i i' : Nat} {s : D} (h : SmR Q cur i s) (hc : ∀ j, j < 11 → cur'[i' * 11 + j]? = cur[i * 11 + j]?) : SmR Q cur' i' s := by
  obtain ⟨h1, ⟨a0, a1, a2, a3, a4, a5, a6, a7, a8, a9⟩, o, h3, h4⟩ := h
  exact ⟨h1, ⟨(hc 0 (by decide)).trans a0, (hc 1 (by decide)).trans a1, (hc 2 (by decide)).trans a2, (hc 3 (by decide)).trans a3, (hc 4 (by decide)).trans a4, (hc 5 (by decide)).trans a5, (hc 6 (by decide)).trans a6, (hc 7 (by decide)).trans a7, (hc 8 (by decide)).trans a8, (hc 9 (by decide)).trans a9⟩, o, (hc 10 (by decide)).trans h3, h4⟩
theorem CpR.cells {Q : Value → List D → Prop} {cur cur' : Array Value} {i i' : Nat} {x : D} (h : CpR S w Q cur i x) (h0 : cur'[i' * 2]? = cur[i * 2]?) (h1 : cur'[i' * 2 + 1]? = cur[i * 2 + 1]?) : CpR S w Q cur' i' x := by
  obtain ⟨e, h2, u, hu, h⟩ := h
  exact ⟨e, h0.trans h2, u, h1.trans hu, h⟩
theorem CxR.cells {Q : Value → List D → Prop} {cur cur' : Array Value} {i i' : Nat} {c : D} (h : CxR S w Q cur i c) (h0 : cur'[i']? = cur[i]?) : CxR S w Q cur' i' c := by
  obtain ⟨e, u, hu, h⟩ := h
  exact ⟨e, u, h0.trans hu, h⟩
end
structure Spl (S : Nat → Prop) (w W : World) : Prop where
  os : W.os = w.os
  tape : W.tape = w.tape
  output : W.output = w.output
  size : W.heap.size = w.heap.size
  out : ∀ b, ¬ S b → W.heap[b]? = w.heap[b]?
  bk : ∀ b t cur, Bk w b t cur → ∃ cur', Bk W b t cur' ∧ cur'.size = cur.size ∧ (t = 30 → cur' = cur) ∧ (t = 46 → ∀ i, cur'[i * 2 + 1]? = cur[i * 2 + 1]?) ∧
    (t = 37 → ∀ i, cur'[i * 11 + 10]? = cur[i * 11 + 10]? ∨ cur'[i * 11 + 10]? = some (.slice none 0 0))
section
variable {S : Nat → Prop} {w W : World}
theorem Spl.refl (S : Nat → Prop) (w : World) : Spl S w w := ⟨rfl, rfl, rfl, rfl, fun _ _ => rfl, fun b t cur h => ⟨cur, h, rfl, fun _ => rfl, fun _ _ => rfl, fun _ _ => .inl rfl⟩⟩
theorem Spl.drew (h : Spl S w W) (ht : W.drew.tape = W.tape) : Spl S w W.drew := ⟨h.os, ht.trans h.tape, h.output, h.size, h.out, h.bk⟩
theorem Bk.uniq {g : Nat} {t t' : TypeId} {cs cs' : Array Value} (h : Bk W g t cs) (h' : Bk W g t' cs') : t = t' ∧ cs = cs' := by
  have := h.symm.trans h'
  injection this with this
  injection this with e1 e2
  exact ⟨e2, e1⟩
theorem Spl.put (h : Spl S w W) {b j : Nat} {t : TypeId} {cur : Array Value} (hS : S b) (hb : Bk W b t cur) (u : Value) (h1 : t ≠ 30) (h2 : t = 46 → j % 2 = 0)
    (h3 : t = 37 → j % 11 = 10 → u = .slice none 0 0) : Spl S w (W.setCell ⟨b, j, none⟩ u) := by
  refine ⟨h.os, h.tape, h.output, by simpa using h.size, fun c hc => (Below.heap_setCell W ⟨b, j, none⟩ u c (fun e => hc (by subst e; exact hS))).trans (h.out c hc), fun c t' cur0 hc => ?_⟩
  obtain ⟨cur', k1, k2, k3, k4, k5⟩ := h.bk c t' cur0 hc
  by_cases e : c = b
  · subst e
    obtain ⟨rfl, rfl⟩ := Bk.uniq k1 hb
    refine ⟨_, hb.put j u, by simpa using k2, fun e => absurd e h1, fun e i => ?_, fun e i => ?_⟩
    · have := h2 e
      rw [Array.getElem?_setIfInBounds_ne (by omega)]
      exact k4 e i
    · by_cases hj : j = i * 11 + 10
      · subst hj
        have hu := h3 e (by omega)
        subst hu
        by_cases hlt : i * 11 + 10 < cur'.size
        · right; simp [Array.getElem?_setIfInBounds_self_of_lt hlt]
        · rw [Array.getElem?_eq_none (by simpa using hlt)]
          left
          rw [Array.getElem?_eq_none (by omega)]
      · rw [Array.getElem?_setIfInBounds_ne (by omega)]
        exact k5 e i
  · exact ⟨cur', Bk.other k1 (p := ⟨b, j, none⟩) e u, k2, k3, k4, k5⟩
end
end Go.Av
namespace Go.Av
open Go.Proofs Go.RowKit Go.Proofs.Ytjoogeabdjdleaa
variable {S : Nat → Prop} {w : World} {F : Nat → Nat → Prop}
theorem RowS.den {t : TypeId} {sz n : Nat} {u : Value} {E : Array Value → Prop} {es : List D} (h : RowS S w t sz u n E) (hn : es.length = n) (hsz : 0 < sz) (hs : ∀ e ∈ es, (dcells e).length = sz) (hF : ∀ b o, S b → F b o)
    (hE : ∀ cur, E cur → ∀ i e j x, es[i]? = some e → (dcells e)[j]? = some x → ∃ v, cur[i * sz + j]? = some v ∧ v.oneCell' = true ∧ Den0 F w v x) : Den0 F w u (.list es) := by
  obtain ⟨A, C, rfl, h1, h2, h3, h⟩ := h
  rcases h with h0 | ⟨g, cur, rfl, h4, h5, h6, h7⟩
  · subst h0
    obtain rfl := List.eq_nil_of_length_eq_zero hn
    exact .list A 0 C sz [] [] rfl h1 hsz (fun e h => by cases h) (by simp) (.inl rfl) (fun i v x h => by simp at h)
  · have key : ∀ (k : Nat) (v : Value) (x : D), (cur.toList.take (n * sz))[k]? = some v → (flat es)[k]? = some x → cur[k]? = some v ∧ v.oneCell' = true ∧ Den0 F w v x := by
      intro k v x hv hx
      have hk : k < n * sz := by
        have := (List.getElem?_eq_some_iff.1 hv).1
        rw [List.length_take] at this
        omega
      rw [List.getElem?_take, if_pos hk, Array.getElem?_toList] at hv
      have hi : k / sz < es.length := by rw [hn]; exact (Nat.div_lt_iff_lt_mul hsz).2 hk
      have he : es[k / sz]? = some es[k / sz] := List.getElem?_eq_getElem hi
      have hj : k % sz < sz := Nat.mod_lt _ hsz
      have hke : k / sz * sz + k % sz = k := by rw [Nat.mul_comm]; exact Nat.div_add_mod k sz
      have hf := flat_at hs he (k % sz) hj
      rw [hke, hx] at hf
      obtain ⟨v', a, b, c⟩ := hE cur h7 _ _ _ x he hf.symm
      rw [hke, hv] at a
      obtain rfl := Option.some.inj a
      exact ⟨hv, b, c⟩
    have hlen : (cur.toList.take (n * sz)).length = n * sz := by rw [List.length_take, Array.length_toList]; omega
    have hfl : (flat es).length = n * sz := by
      have : ∀ l : List D, (∀ e ∈ l, (dcells e).length = sz) → (flat l).length = l.length * sz := by
        intro l
        induction l with
        | nil => intro _; simp [flat]
        | cons a r ih =>
          intro h
          have e : flat (a :: r) = dcells a ++ flat r := rfl
          rw [e, List.length_append, ih fun x hx => h x (List.mem_cons_of_mem _ hx), h a (List.mem_cons_self ..), List.length_cons, Nat.succ_mul, Nat.add_comm]
      rw [this es hs, hn]
    refine .list _ n C sz es (cur.toList.take (n * sz)) hn h1 hsz hs hlen (.inr ⟨g, 0, rfl, fun i v hv => ?_⟩) fun i v x hv hx => (key i v x hv hx).2.2
    have hi : i < (flat es).length := by rw [hfl, ← hlen]; exact (List.getElem?_eq_some_iff.1 hv).1
    obtain ⟨a, b, _⟩ := key i v _ hv (List.getElem?_eq_getElem hi)
    refine ⟨hF _ _ h4, ?_, b⟩
    rw [Nat.zero_add, cell_of_row w g i cur t (0, 0) h5]
    exact a
theorem RowS.one {t : TypeId} {sz n : Nat} {u : Value} {E : Array Value → Prop} (h : RowS S w t sz u n E) : u.oneCell' = true := by
  obtain ⟨A, C, rfl, _⟩ := h
  rfl
theorem dc_sf (s : Sf) : dcells s.d = [.int .i64 s.kd, .int .i64 s.ns, .str s.pre, .str s.nm, .int .i64 s.op, .str s.tx, .bool s.fold, .int .i64 s.mark, .int .i64 s.a, .int .i64 s.b, .list s.of_] := rfl
theorem SmR.den {Q : Value → List D → Prop} (hQ : ∀ u l, Q u l → u.oneCell' = true ∧ Den0 F w u (.list l)) {cur : Array Value} {i : Nat} {s : D} (h : SmR Q cur i s) :
    (dcells s).length = 11 ∧ ∀ j x, (dcells s)[j]? = some x → ∃ v, cur[i * 11 + j]? = some v ∧ v.oneCell' = true ∧ Den0 F w v x := by
  obtain ⟨e, ⟨a0, a1, a2, a3, a4, a5, a6, a7, a8, a9⟩, o, h3, h4⟩ := h
  generalize sf s = z at *
  subst e
  refine ⟨rfl, fun j x hx => ?_⟩
  rw [dc_sf] at hx
  rcases j with _ | _ | _ | _ | _ | _ | _ | _ | _ | _ | _ | j
  · injection hx with hx; subst hx; exact ⟨_, a0, rfl, .int _ _⟩
  · injection hx with hx; subst hx; exact ⟨_, a1, rfl, .int _ _⟩
  · injection hx with hx; subst hx; exact ⟨_, a2, rfl, .str _⟩
  · injection hx with hx; subst hx; exact ⟨_, a3, rfl, .str _⟩
  · injection hx with hx; subst hx; exact ⟨_, a4, rfl, .int _ _⟩
  · injection hx with hx; subst hx; exact ⟨_, a5, rfl, .str _⟩
  · injection hx with hx; subst hx; exact ⟨_, a6, rfl, .bool _⟩
  · injection hx with hx; subst hx; exact ⟨_, a7, rfl, .int _ _⟩
  · injection hx with hx; subst hx; exact ⟨_, a8, rfl, .int _ _⟩
  · injection hx with hx; subst hx; exact ⟨_, a9, rfl, .int _ _⟩
  · injection hx with hx; subst hx; exact ⟨_, h3, (hQ _ _ h4).1, (hQ _ _ h4).2⟩
  · simp at hx
def szS (Y : List D) : Prop := ∀ s ∈ Y, s = (sf s).d
def szP (X : List D) : Prop := ∀ x ∈ X, x = cpD (cpC x) (cpL x) ∧ szS (cpL x)
def szL (l : List D) : Prop := ∀ c ∈ l, c = cxD (cxL c) ∧ szP (cxL c)
theorem szL_of {m : Nat} {k : Nat} {l : List D} (h : lsOk m (smOk m k) l = true) : szL l := fun c hc => by
  obtain ⟨X, rfl, _, hX⟩ := cxOk_inv ((lsOk_mem h).2 c hc)
  refine ⟨rfl, fun x hx => ?_⟩
  obtain ⟨cc, Y, rfl, _, hY⟩ := cpOk_inv (hX x hx)
  refine ⟨rfl, fun s hs => ?_⟩
  have := hY s hs
  cases k with
  | zero => simp [smOk] at this
  | succ k => exact (smOk_inv this).1
theorem LsR.den {Q : Value → List D → Prop} (hQ : ∀ u l, Q u l → u.oneCell' = true ∧ Den0 F w u (.list l)) (hF : ∀ b o, S b → F b o) {u : Value} {l : List D} (hf : szL l) (h : LsR S w Q u l) : Den0 F w u (.list l) := by
  refine RowS.den h rfl (by decide) (fun c hc => by rw [(hf c hc).1]; rfl) hF fun cur hE i c j x hc hx => ?_
  obtain ⟨e, v, hv, h⟩ := hE i c hc
  obtain ⟨_, hfX⟩ := hf c (List.mem_of_getElem? hc)
  generalize cxL c = X at *
  subst e
  have hx' : ([D.list X] : List D)[j]? = some x := hx
  rcases j with _ | j
  · injection hx' with hx'
    subst hx'
    refine ⟨v, by rw [Nat.mul_one]; exact hv, h.one, RowS.den h rfl (by decide) (fun x hx => by rw [(hfX x hx).1]; rfl) hF fun cur hE i p j x hp hx => ?_⟩
    obtain ⟨e, h0, v, hv, h⟩ := hE i p hp
    obtain ⟨_, hfY⟩ := hfX p (List.mem_of_getElem? hp)
    generalize cpL p = Y at *
    generalize cpC p = cc at *
    subst e
    have hx' : ([D.int .i64 cc, D.list Y] : List D)[j]? = some x := hx
    rcases j with _ | _ | j
    · injection hx' with hx'
      subst hx'
      exact ⟨_, h0, rfl, .int _ _⟩
    · injection hx' with hx'
      subst hx'
      refine ⟨v, hv, h.one, RowS.den h rfl (by decide) (fun s hs => by rw [hfY s hs]; rfl) hF fun cur hE i s j x hs hx => ?_⟩
      exact ((hE i s hs).den hQ).2 j x hx
    · simp at hx'
  · simp at hx'
theorem SpO.den : ∀ {k m : Nat} {u : Value} {l : List D}, lsOk m (smOk m k) l = true → (∀ b o, S b → F b o) → SpO S w (k + 1) u l → u.oneCell' = true ∧ Den0 F w u (.list l)
  | 0, m, u, l, hl, hF, h => by
    have hq : ∀ c ∈ l, ∀ x ∈ cxL c, cpL x = [] := fun c hc x hx => by
      obtain ⟨X, rfl, _, hX⟩ := cxOk_inv ((lsOk_mem hl).2 c hc)
      obtain ⟨cc, Y, rfl, _, hY⟩ := cpOk_inv (hX x hx)
      cases Y with
      | nil => rfl
      | cons s r => have := hY s (List.mem_cons_self ..); simp [smOk] at this
    refine ⟨RowS.one h, ?_⟩
    have h' : LsR S w (fun _ _ => False) u l := by
      refine RowS.mono h (fun _ h => h) (fun _ _ => rfl) fun cur h j c hc => ?_
      obtain ⟨e, v, hv, h⟩ := h j c hc
      refine ⟨e, v, hv, RowS.mono h (fun _ h => h) (fun _ _ => rfl) fun cur h j x hx => ?_⟩
      obtain ⟨e, h0, v, hv, h⟩ := h j x hx
      refine ⟨e, h0, v, hv, RowS.mono h (fun _ h => h) (fun _ _ => rfl) fun cur h j s hs => ?_⟩
      rw [hq c (List.mem_of_getElem? hc) x (List.mem_of_getElem? hx)] at hs
      simp at hs
    exact LsR.den (fun _ _ h => h.elim) hF (szL_of hl) h'
  | k + 1, m, u, l, hl, hF, h => by
    refine ⟨RowS.one h, ?_⟩
    have h' : LsR S w (fun u l => SpO S w (k + 1) u l ∧ lsOk m (smOk m k) l = true) u l := by
      refine RowS.mono h (fun _ h => h) (fun _ _ => rfl) fun cur h j c hc => ?_
      obtain ⟨e, v, hv, h⟩ := h j c hc
      refine ⟨e, v, hv, RowS.mono h (fun _ h => h) (fun _ _ => rfl) fun cur h j x hx => ?_⟩
      obtain ⟨e, h0, v, hv, h⟩ := h j x hx
      refine ⟨e, h0, v, hv, RowS.mono h (fun _ h => h) (fun _ _ => rfl) fun cur h j s hs => ?_⟩
      obtain ⟨e1, e2, o, e3, e4⟩ := h j s hs
      have hs' := lsOk_s hl c (List.mem_of_getElem? hc) x (List.mem_of_getElem? hx) s (List.mem_of_getElem? hs)
      exact ⟨e1, e2, o, e3, e4, (smOk_inv hs').2.2.2.2⟩
    exact LsR.den (fun u l h => SpO.den h.2 hF h.1) hF (szL_of hl) h'
end Go.Av
set_option maxRecDepth 10000
namespace Go.Av
open Go.Proofs
theorem ty3 : aggOf Try.prog 3 = some false ∧ sizeT Try.prog 3 = some 1 ∧ Try.prog.underlying 3 = some (.int .i64) := ⟨by kernel_rfl, by kernel_rfl, by kernel_rfl⟩
theorem dp3 (cs : List D) (off : Nat) : dpart Try.prog 3 cs off = cs[off]? := by simp only [dpart, ty3.1]
theorem ty4 : aggOf Try.prog 4 = some false ∧ sizeT Try.prog 4 = some 1 ∧ Try.prog.underlying 4 = some (.bool) := ⟨by kernel_rfl, by kernel_rfl, by kernel_rfl⟩
theorem dp4 (cs : List D) (off : Nat) : dpart Try.prog 4 cs off = cs[off]? := by simp only [dpart, ty4.1]
theorem ty9 : aggOf Try.prog 9 = some false ∧ sizeT Try.prog 9 = some 1 ∧ Try.prog.underlying 9 = some (.string) := ⟨by kernel_rfl, by kernel_rfl, by kernel_rfl⟩
theorem dp9 (cs : List D) (off : Nat) : dpart Try.prog 9 cs off = cs[off]? := by simp only [dpart, ty9.1]
theorem len9 (s : List UInt8) : dlen Try.prog #[9] (.str s) = some (.int .i64 s.length) := by kernel_rfl
theorem ty33 : aggOf Try.prog 33 = some true ∧ sizeT Try.prog 33 = some 3 := ⟨by kernel_rfl, by kernel_rfl⟩
theorem dp33 (x0 x1 x2 : D) : dpart Try.prog 33 [x0, x1, x2] 0 = some (.agg [x0, x1, x2]) := by simp only [dpart, ty33.1, ty33.2]; rfl
theorem fa33_0 (d : D) (off : Nat) : dfieldAddr Try.prog 33 (.fix d off) 0 = some (.fix d (off + 0)) := by kernel_rfl
theorem fp33_0 (k g off : Nat) : dfieldAddr Try.prog 33 (.ptr k g off) 0 = some (.ptr k g (off + 0)) := by kernel_rfl
theorem fa33_1 (d : D) (off : Nat) : dfieldAddr Try.prog 33 (.fix d off) 1 = some (.fix d (off + 1)) := by kernel_rfl
theorem fp33_1 (k g off : Nat) : dfieldAddr Try.prog 33 (.ptr k g off) 1 = some (.ptr k g (off + 1)) := by kernel_rfl
theorem fa33_2 (d : D) (off : Nat) : dfieldAddr Try.prog 33 (.fix d off) 2 = some (.fix d (off + 2)) := by kernel_rfl
theorem fp33_2 (k g off : Nat) : dfieldAddr Try.prog 33 (.ptr k g off) 2 = some (.ptr k g (off + 2)) := by kernel_rfl
theorem ty35 : aggOf Try.prog 35 = some true ∧ sizeT Try.prog 35 = some 2 := ⟨by kernel_rfl, by kernel_rfl⟩
theorem dp35 (x0 x1 : D) : dpart Try.prog 35 [x0, x1] 0 = some (.agg [x0, x1]) := by simp only [dpart, ty35.1, ty35.2]; rfl
theorem fa35_0 (d : D) (off : Nat) : dfieldAddr Try.prog 35 (.fix d off) 0 = some (.fix d (off + 0)) := by kernel_rfl
theorem fp35_0 (k g off : Nat) : dfieldAddr Try.prog 35 (.ptr k g off) 0 = some (.ptr k g (off + 0)) := by kernel_rfl
theorem fa35_1 (d : D) (off : Nat) : dfieldAddr Try.prog 35 (.fix d off) 1 = some (.fix d (off + 1)) := by kernel_rfl
theorem fp35_1 (k g off : Nat) : dfieldAddr Try.prog 35 (.ptr k g off) 1 = some (.ptr k g (off + 1)) := by kernel_rfl
theorem ty37 : aggOf Try.prog 37 = some true ∧ sizeT Try.prog 37 = some 11 := ⟨by kernel_rfl, by kernel_rfl⟩
theorem dp37 (x0 x1 x2 x3 x4 x5 x6 x7 x8 x9 x10 : D) : dpart Try.prog 37 [x0, x1, x2, x3, x4, x5, x6, x7, x8, x9, x10] 0 = some (.agg [x0, x1, x2, x3, x4, x5, x6, x7, x8, x9, x10]) := by simp only [dpart, ty37.1, ty37.2]; rfl
theorem fa37_0 (d : D) (off : Nat) : dfieldAddr Try.prog 37 (.fix d off) 0 = some (.fix d (off + 0)) := by kernel_rfl
theorem fp37_0 (k g off : Nat) : dfieldAddr Try.prog 37 (.ptr k g off) 0 = some (.ptr k g (off + 0)) := by kernel_rfl
theorem fa37_1 (d : D) (off : Nat) : dfieldAddr Try.prog 37 (.fix d off) 1 = some (.fix d (off + 1)) := by kernel_rfl
theorem fp37_1 (k g off : Nat) : dfieldAddr Try.prog 37 (.ptr k g off) 1 = some (.ptr k g (off + 1)) := by kernel_rfl
theorem fa37_2 (d : D) (off : Nat) : dfieldAddr Try.prog 37 (.fix d off) 2 = some (.fix d (off + 2)) := by kernel_rfl
theorem fp37_2 (k g off : Nat) : dfieldAddr Try.prog 37 (.ptr k g off) 2 = some (.ptr k g (off + 2)) := by kernel_rfl
theorem fa37_3 (d : D) (off : Nat) : dfieldAddr Try.prog 37 (.fix d off) 3 = some (.fix d (off + 3)) := by kernel_rfl
theorem fp37_3 (k g off : Nat) : dfieldAddr Try.prog 37 (.ptr k g off) 3 = some (.ptr k g (off + 3)) := by kernel_rfl
theorem fa37_4 (d : D) (off : Nat) : dfieldAddr Try.prog 37 (.fix d off) 4 = some (.fix d (off + 4)) := by kernel_rfl
theorem fp37_4 (k g off : Nat) : dfieldAddr Try.prog 37 (.ptr k g off) 4 = some (.ptr k g (off + 4)) := by kernel_rfl
theorem fa37_5 (d : D) (off : Nat) : dfieldAddr Try.prog 37 (.fix d off) 5 = some (.fix d (off + 7)) := by kernel_rfl
theorem fp37_5 (k g off : Nat) : dfieldAddr Try.prog 37 (.ptr k g off) 5 = some (.ptr k g (off + 7)) := by kernel_rfl
theorem fa37_6 (d : D) (off : Nat) : dfieldAddr Try.prog 37 (.fix d off) 6 = some (.fix d (off + 8)) := by kernel_rfl
theorem fp37_6 (k g off : Nat) : dfieldAddr Try.prog 37 (.ptr k g off) 6 = some (.ptr k g (off + 8)) := by kernel_rfl
theorem fa37_7 (d : D) (off : Nat) : dfieldAddr Try.prog 37 (.fix d off) 7 = some (.fix d (off + 10)) := by kernel_rfl
theorem fp37_7 (k g off : Nat) : dfieldAddr Try.prog 37 (.ptr k g off) 7 = some (.ptr k g (off + 10)) := by kernel_rfl
theorem ty46 : aggOf Try.prog 46 = some true ∧ sizeT Try.prog 46 = some 2 := ⟨by kernel_rfl, by kernel_rfl⟩
theorem dp46 (x0 x1 : D) : dpart Try.prog 46 [x0, x1] 0 = some (.agg [x0, x1]) := by simp only [dpart, ty46.1, ty46.2]; rfl
theorem fa46_0 (d : D) (off : Nat) : dfieldAddr Try.prog 46 (.fix d off) 0 = some (.fix d (off + 0)) := by kernel_rfl
theorem fp46_0 (k g off : Nat) : dfieldAddr Try.prog 46 (.ptr k g off) 0 = some (.ptr k g (off + 0)) := by kernel_rfl
theorem fa46_1 (d : D) (off : Nat) : dfieldAddr Try.prog 46 (.fix d off) 1 = some (.fix d (off + 1)) := by kernel_rfl
theorem fp46_1 (k g off : Nat) : dfieldAddr Try.prog 46 (.ptr k g off) 1 = some (.ptr k g (off + 1)) := by kernel_rfl
theorem ty30 : aggOf Try.prog 30 = some true ∧ sizeT Try.prog 30 = some 1 := ⟨by kernel_rfl, by kernel_rfl⟩
theorem dp30 (x0 : D) : dpart Try.prog 30 [x0] 0 = some (.agg [x0]) := by simp only [dpart, ty30.1, ty30.2]; rfl
theorem fa30_0 (d : D) (off : Nat) : dfieldAddr Try.prog 30 (.fix d off) 0 = some (.fix d (off + 0)) := by kernel_rfl
theorem fp30_0 (k g off : Nat) : dfieldAddr Try.prog 30 (.ptr k g off) 0 = some (.ptr k g (off + 0)) := by kernel_rfl
theorem ty39 : aggOf Try.prog 39 = some true ∧ sizeT Try.prog 39 = some 3 := ⟨by kernel_rfl, by kernel_rfl⟩
theorem dp39 (x0 x1 x2 : D) : dpart Try.prog 39 [x0, x1, x2] 0 = some (.agg [x0, x1, x2]) := by simp only [dpart, ty39.1, ty39.2]; rfl
theorem fa39_0 (d : D) (off : Nat) : dfieldAddr Try.prog 39 (.fix d off) 0 = some (.fix d (off + 0)) := by kernel_rfl
theorem fp39_0 (k g off : Nat) : dfieldAddr Try.prog 39 (.ptr k g off) 0 = some (.ptr k g (off + 0)) := by kernel_rfl
theorem fa39_1 (d : D) (off : Nat) : dfieldAddr Try.prog 39 (.fix d off) 1 = some (.fix d (off + 1)) := by kernel_rfl
theorem fp39_1 (k g off : Nat) : dfieldAddr Try.prog 39 (.ptr k g off) 1 = some (.ptr k g (off + 1)) := by kernel_rfl
theorem fa39_2 (d : D) (off : Nat) : dfieldAddr Try.prog 39 (.fix d off) 2 = some (.fix d (off + 2)) := by kernel_rfl
theorem fp39_2 (k g off : Nat) : dfieldAddr Try.prog 39 (.ptr k g off) 2 = some (.ptr k g (off + 2)) := by kernel_rfl
theorem dp33_4_11 (x0 x1 x2 x3 x4 x5 x6 x7 x8 x9 x10 : D) : dpart Try.prog 33 [x0, x1, x2, x3, x4, x5, x6, x7, x8, x9, x10] 4 = some (.agg [x4, x5, x6]) := by simp only [dpart, ty33.1, ty33.2]; rfl
theorem dp35_8_11 (x0 x1 x2 x3 x4 x5 x6 x7 x8 x9 x10 : D) : dpart Try.prog 35 [x0, x1, x2, x3, x4, x5, x6, x7, x8, x9, x10] 8 = some (.agg [x8, x9]) := by simp only [dpart, ty35.1, ty35.2]; rfl
theorem ty44 : elemT Try.prog 44 = some 37 ∧ Try.prog.underlying 44 = some (.slice 37) ∧ aggOf Try.prog 44 = some false := ⟨by kernel_rfl, by kernel_rfl, by kernel_rfl⟩
theorem dp44 (cs : List D) (off : Nat) : dpart Try.prog 44 cs off = cs[off]? := by simp only [dpart, ty44.2.2]
theorem ia44 (es : List D) (ki : IntKind) (i : Int) : dindexAddr Try.prog 44 (.list es) (.int ki i) = if 0 ≤ i ∧ i < es.length then (if (dcells (es.getD i.toNat .bad)).length = 11 then some (.fix (es.getD i.toNat .bad) 0) else none) else none := by
  simp only [dindexAddr, ty44.1, ty37.2]
theorem len44 (l : List D) : dlen Try.prog #[44] (.list l) = some (.int .i64 l.length) := by kernel_rfl
theorem ty28 : elemT Try.prog 28 = some 46 ∧ Try.prog.underlying 28 = some (.slice 46) ∧ aggOf Try.prog 28 = some false := ⟨by kernel_rfl, by kernel_rfl, by kernel_rfl⟩
theorem dp28 (cs : List D) (off : Nat) : dpart Try.prog 28 cs off = cs[off]? := by simp only [dpart, ty28.2.2]
theorem ia28 (es : List D) (ki : IntKind) (i : Int) : dindexAddr Try.prog 28 (.list es) (.int ki i) = if 0 ≤ i ∧ i < es.length then (if (dcells (es.getD i.toNat .bad)).length = 2 then some (.fix (es.getD i.toNat .bad) 0) else none) else none := by
  simp only [dindexAddr, ty28.1, ty46.2]
theorem len28 (l : List D) : dlen Try.prog #[28] (.list l) = some (.int .i64 l.length) := by kernel_rfl
theorem ty22 : elemT Try.prog 22 = some 30 ∧ Try.prog.underlying 22 = some (.slice 30) ∧ aggOf Try.prog 22 = some false := ⟨by kernel_rfl, by kernel_rfl, by kernel_rfl⟩
theorem dp22 (cs : List D) (off : Nat) : dpart Try.prog 22 cs off = cs[off]? := by simp only [dpart, ty22.2.2]
theorem ia22 (es : List D) (ki : IntKind) (i : Int) : dindexAddr Try.prog 22 (.list es) (.int ki i) = if 0 ≤ i ∧ i < es.length then (if (dcells (es.getD i.toNat .bad)).length = 1 then some (.fix (es.getD i.toNat .bad) 0) else none) else none := by
  simp only [dindexAddr, ty22.1, ty30.2]
theorem len22 (l : List D) : dlen Try.prog #[22] (.list l) = some (.int .i64 l.length) := by kernel_rfl
theorem frzOps_nil : frzOps [] = [] := rfl
theorem noEatS (t : TypeId) : Gs.noEat t = false := rfl
theorem frzOf_def (o : Oper) (l : List Oper) : frzOps (o :: l) = (match o.op with
    | .makeFunc _ _ c => c.toList.filterMap (fun | .tmp t => some t | _ => none)
    | _ => []) ++ frzOps l := rfl
theorem frz_nil (s : St) : s.frz [] = s := rfl
theorem frz_cons (s : St) (t : Tmp) (l : List Tmp) : s.frz (t :: l) = (s.freeze t).frz l := rfl
theorem ptrIn_nil : ptrIn [] = none := rfl
theorem ptrIn_int (k : IntKind) (i : Int) (l : List D) : ptrIn (.int k i :: l) = ptrIn l := rfl
theorem ptrIn_bool (b : Bool) (l : List D) : ptrIn (.bool b :: l) = ptrIn l := rfl
theorem ptrIn_str (s : List UInt8) (l : List D) : ptrIn (.str s :: l) = ptrIn l := rfl
theorem ptrIn_agg (cs l : List D) : ptrIn (.agg cs :: l) = ptrIn l := rfl
theorem ptrIn_list (cs l : List D) : ptrIn (.list cs :: l) = ptrIn l := rfl
theorem ptrIn_fix (d : D) (off : Nat) (l : List D) : ptrIn (.fix d off :: l) = ptrIn l := rfl
theorem ptrIn_con (v : Value) (l : List D) : ptrIn (.con v :: l) = ptrIn l := rfl
theorem ptrIn_ptr (k g off : Nat) (l : List D) : ptrIn (.ptr k g off :: l) = some (k, g) := rfl
theorem putR3 (rs : List Room) : putR rs 0 3 [] = [.no, .no, .no] ++ rs.drop 3 := rfl
theorem rowS (o : Oper) : Gs.rowAt o = false := rfl
theorem frzS (ops : List Oper) : Gs.frzAt ops = frzOps ops := rfl
theorem zr37 : zeroOf Try.prog 37 = some [.int .i64 0, .int .i64 0, .str [], .str [], .int .i64 0, .str [], .bool false, .int .i64 0, .int .i64 0, .int .i64 0, .list []] := by kernel_rfl
theorem zr46 : zeroOf Try.prog 46 = some [.int .i64 0, .list []] := by kernel_rfl
theorem zr30 : zeroOf Try.prog 30 = some [.list []] := by kernel_rfl
theorem zrm37 : zrooms Try.prog 37 = [.no, .no, .no, .no, .no, .no, .no, .no, .no, .no, .full] := by kernel_rfl
theorem zrm46 : zrooms Try.prog 46 = [.no, .full] := by kernel_rfl
theorem zrm30 : zrooms Try.prog 30 = [.full] := by kernel_rfl
theorem eq33 (a a' : Int) (s s' : List UInt8) (b b' : Bool) : dStructEq Try.prog 33 [.int .i64 a, .str s, .bool b] [.int .i64 a', .str s', .bool b'] = some (a == a' && (s == s' && b == b')) := by
  have h : dStructEq Try.prog 33 [.int .i64 a, .str s, .bool b] [.int .i64 a', .str s', .bool b'] = (match some (a == a') with | some true => (match some (s == s') with | some true => (match some (b == b') with | some true => some true | r => r) | r => r) | r => r) := by kernel_rfl
  rw [h]
  cases (a == a') <;> cases (s == s') <;> cases (b == b') <;> rfl
theorem eq35 (a a' b b' : Int) : dStructEq Try.prog 35 [.int .i64 a, .int .i64 b] [.int .i64 a', .int .i64 b'] = some (a == a' && b == b') := by
  have h : dStructEq Try.prog 35 [.int .i64 a, .int .i64 b] [.int .i64 a', .int .i64 b'] = (match some (a == a') with | some true => (match some (b == b') with | some true => some true | r => r) | r => r) := by kernel_rfl
  rw [h]
  cases (a == a') <;> cases (b == b') <;> rfl
theorem ptrIn_fn0 (f : Fn) (l : List D) : ptrIn (.func f [] [] :: l) = ptrIn l := rfl
theorem ptrIn_fn1 (f : Fn) (e1 : D) (l : List D) : ptrIn (.func f [] [.fix e1 0] :: l) = ptrIn l := rfl
theorem szOk_cons (sz : Nat) (e : D) (es : List D) : szOk sz (e :: es) = ((dcells e).length == sz) := rfl
theorem szOk_nil (sz : Nat) : szOk sz [] = true := rfl
theorem plainR_s (d : D) (r : List Room) : plainR (some (d, r, [])) = some (d, r) := rfl
end Go.Av
set_option maxRecDepth 100000
namespace Go.Av
open Go.Proofs
theorem Q {p q : Prop} (k : q) (h : q → p := by intro k; repeat' (first|simp only [*, -k, go_nil, go_seq, go_cond, go_block, go_blk, go_skip, go_exit, go_retc, go_xcode, go_xblk, go_loop, go_region, go_draw, go_ops_nil, go_dops_nil, go_ops, go_dops, okG_some, okB_some, gwD_bool, gwD_undef, cwD_bool, gw_true, gw_false, guardG_none, guardG, opG, opD, isPtr, inB, sval, stake, eats, eaters, get, cval, cval1, croom, St.taken, put_slot, put_room, put_box, put_ctr, put_none, dem_none, dem_slot, dem_box, dem_ctr, dem_room, dem_room1, setBox_slot, setBox_room, setBox_ctr, setBox_box, entry_slot, entry_room, entry_box, entry_ctr, endQ, endR, endV, rvars, rvar, room1, ↓reduceIte, Nat.reduceEqDiff, Nat.reduceLT, Nat.reduceLeDiff, reduceCtorEq, decide_true, decide_false, List.filterMap_cons, List.filterMap_nil, Option.bind_some, Option.map_some, Option.bind_none, Option.map_none, List.getElem?_cons_zero, List.getElem?_cons_succ, List.getD_cons_zero, List.getD_cons_succ, List.contains_cons, List.contains_nil, List.map_cons, List.map_nil, beq_self_eq_true, beq_iff_eq, Bool.or_false, Bool.false_or, Bool.or_true, Bool.true_or, Bool.and_true, Bool.true_and, Nat.reduceBEq, Bool.false_eq_true, dbin, dIntBin, okR, callG, endN, newV, rowS, frzS, frzOf_def, frz_nil, frz_cons, frzD, rowList, rowElem, stepRow, madeRow, isLocal, isAlloc, loadsOwn, ptrAt, beq_true, beq_false, Bool.not_true, Bool.not_false, pureB, leaf, leafN, List.all_cons, List.all_nil, List.nil_append, List.cons_append, List.append_nil, List.take_nil, List.range_zero, List.length_nil, List.length_cons, String.reduceBEq, Bool.true_beq, Bool.false_beq, List.find?_cons, List.find?_nil, dun, List.getElem?_nil, List.take_zero, List.drop_zero, List.take_succ_cons, List.drop_succ_cons, dcells, Nat.zero_add, Nat.reduceAdd, Nat.reduceSub, Nat.reduceMul, stepBox, Bool.and_false, Bool.false_and, and_true, true_and, List.zipWith, Option.getD_some, List.singleton_append, List.map_map, Int.natCast_nonneg, Int.toNat_natCast, and_self, Nat.mul_one, Nat.add_zero, if_true, St.freeze, false_or, or_true, true_or, or_false, szOk_cons, szOk_nil, List.cons.injEq, false_and, and_false, forall_const, List.getElem?_toArray, List.getElem_toArray, dopt, dbound, ge_iff_le, gt_iff_lt, dStrBin, List.take_length, plainR_s, Int.reduceLE, Int.reduceLT, Int.reduceToNat, Int.reduceBEq, Int.reduceBNe, isBar, optIn, allocKeys, takes, ptrArgs, callArgs, ptrIn_nil, ptrIn_int, ptrIn_bool, ptrIn_str, ptrIn_agg, ptrIn_list, ptrIn_fix, ptrIn_con, ptrIn_ptr, ptrIn1, ren, ren1, argOk, argOk1, given, oroom, clearR, vroom, nilR, Option.isSome_none, Option.isSome_some, stepTake, stepPtr, notAgg, ite_self, ty3, dp3, ty4, dp4, ty9, dp9, len9, ty33, dp33, fa33_0, fp33_0, fa33_1, fp33_1, fa33_2, fp33_2, ty35, dp35, fa35_0, fp35_0, fa35_1, fp35_1, ty37, dp37, fa37_0, fp37_0, fa37_1, fp37_1, fa37_2, fp37_2, fa37_3, fp37_3, fa37_4, fp37_4, fa37_5, fp37_5, fa37_6, fp37_6, fa37_7, fp37_7, ty46, dp46, fa46_0, fp46_0, fa46_1, fp46_1, ty30, dp30, fa30_0, fp30_0, ty39, dp39, fa39_0, fp39_0, fa39_1, fp39_1, fa39_2, fp39_2, dp33_4_11, dp35_8_11, ty44, dp44, ia44, len44, ty28, dp28, ia28, len28, ty22, dp22, ia22, len22, frzOps_nil, noEatS, putR3, zr37, zr46, zr30, zrm37, zrm46, zrm30, eq33, eq35, ptrIn_fn0, ptrIn_fn1, Option.some.injEq, List.drop_nil, lenOk_small]|refine drW_intro (by kernel_rfl) ?_|refine gw_intro (fun h => ?_) (fun h => ?_) <;> try simp only [beq_true, beq_false, Bool.not_eq_eq_eq_not, Bool.not_true, Bool.not_false, Bool.not_not, decide_eq_true_eq, decide_eq_false_iff_not, ge_iff_le, gt_iff_lt] at h|exact k)) : p := h k
theorem W {p : Prop} (h : p := by repeat' (first|simp only [*, go_nil, go_seq, go_cond, go_block, go_blk, go_skip, go_exit, go_retc, go_xcode, go_xblk, go_loop, go_region, go_draw, go_ops_nil, go_dops_nil, go_ops, go_dops, okG_some, okB_some, gwD_bool, gwD_undef, cwD_bool, gw_true, gw_false, guardG_none, guardG, opG, opD, isPtr, inB, sval, stake, eats, eaters, get, cval, cval1, croom, St.taken, put_slot, put_room, put_box, put_ctr, put_none, dem_none, dem_slot, dem_box, dem_ctr, dem_room, dem_room1, setBox_slot, setBox_room, setBox_ctr, setBox_box, entry_slot, entry_room, entry_box, entry_ctr, endQ, endR, endV, rvars, rvar, room1, ↓reduceIte, Nat.reduceEqDiff, Nat.reduceLT, Nat.reduceLeDiff, reduceCtorEq, decide_true, decide_false, List.filterMap_cons, List.filterMap_nil, Option.bind_some, Option.map_some, Option.bind_none, Option.map_none, List.getElem?_cons_zero, List.getElem?_cons_succ, List.getD_cons_zero, List.getD_cons_succ, List.contains_cons, List.contains_nil, List.map_cons, List.map_nil, beq_self_eq_true, beq_iff_eq, Bool.or_false, Bool.false_or, Bool.or_true, Bool.true_or, Bool.and_true, Bool.true_and, Nat.reduceBEq, Bool.false_eq_true, dbin, dIntBin, okR, callG, endN, newV, rowS, frzS, frzOf_def, frz_nil, frz_cons, frzD, rowList, rowElem, stepRow, madeRow, isLocal, isAlloc, loadsOwn, ptrAt, beq_true, beq_false, Bool.not_true, Bool.not_false, pureB, leaf, leafN, List.all_cons, List.all_nil, List.nil_append, List.cons_append, List.append_nil, List.take_nil, List.range_zero, List.length_nil, List.length_cons, String.reduceBEq, Bool.true_beq, Bool.false_beq, List.find?_cons, List.find?_nil, dun, List.getElem?_nil, List.take_zero, List.drop_zero, List.take_succ_cons, List.drop_succ_cons, dcells, Nat.zero_add, Nat.reduceAdd, Nat.reduceSub, Nat.reduceMul, stepBox, Bool.and_false, Bool.false_and, and_true, true_and, List.zipWith, Option.getD_some, List.singleton_append, List.map_map, Int.natCast_nonneg, Int.toNat_natCast, and_self, Nat.mul_one, Nat.add_zero, if_true, St.freeze, false_or, or_true, true_or, or_false, szOk_cons, szOk_nil, List.cons.injEq, false_and, and_false, forall_const, List.getElem?_toArray, List.getElem_toArray, dopt, dbound, ge_iff_le, gt_iff_lt, dStrBin, List.take_length, plainR_s, Int.reduceLE, Int.reduceLT, Int.reduceToNat, Int.reduceBEq, Int.reduceBNe, isBar, optIn, allocKeys, takes, ptrArgs, callArgs, ptrIn_nil, ptrIn_int, ptrIn_bool, ptrIn_str, ptrIn_agg, ptrIn_list, ptrIn_fix, ptrIn_con, ptrIn_ptr, ptrIn1, ren, ren1, argOk, argOk1, given, oroom, clearR, vroom, nilR, Option.isSome_none, Option.isSome_some, stepTake, stepPtr, notAgg, ite_self, ty3, dp3, ty4, dp4, ty9, dp9, len9, ty33, dp33, fa33_0, fp33_0, fa33_1, fp33_1, fa33_2, fp33_2, ty35, dp35, fa35_0, fp35_0, fa35_1, fp35_1, ty37, dp37, fa37_0, fp37_0, fa37_1, fp37_1, fa37_2, fp37_2, fa37_3, fp37_3, fa37_4, fp37_4, fa37_5, fp37_5, fa37_6, fp37_6, fa37_7, fp37_7, ty46, dp46, fa46_0, fp46_0, fa46_1, fp46_1, ty30, dp30, fa30_0, fp30_0, ty39, dp39, fa39_0, fp39_0, fa39_1, fp39_1, fa39_2, fp39_2, dp33_4_11, dp35_8_11, ty44, dp44, ia44, len44, ty28, dp28, ia28, len28, ty22, dp22, ia22, len22, frzOps_nil, noEatS, putR3, zr37, zr46, zr30, zrm37, zrm46, zrm30, eq33, eq35, ptrIn_fn0, ptrIn_fn1, Option.some.injEq, List.drop_nil, lenOk_small]|refine drW_intro (by kernel_rfl) ?_|refine gw_intro (fun h => ?_) (fun h => ?_) <;> try simp only [beq_true, beq_false, Bool.not_eq_eq_eq_not, Bool.not_true, Bool.not_false, Bool.not_not, decide_eq_true_eq, decide_eq_false_iff_not, ge_iff_le, gt_iff_lt] at h)) : p := h
theorem G {p q : Prop} (k : q) (h : p = q := by simp only [*, go_nil, go_seq, go_cond, go_block, go_blk, go_skip, go_exit, go_retc, go_xcode, go_xblk, go_loop, go_region, go_draw, go_ops_nil, go_dops_nil, go_ops, go_dops, okG_some, okB_some, gwD_bool, gwD_undef, cwD_bool, gw_true, gw_false, guardG_none, guardG, opG, opD, isPtr, inB, sval, stake, eats, eaters, get, cval, cval1, croom, St.taken, put_slot, put_room, put_box, put_ctr, put_none, dem_none, dem_slot, dem_box, dem_ctr, dem_room, dem_room1, setBox_slot, setBox_room, setBox_ctr, setBox_box, entry_slot, entry_room, entry_box, entry_ctr, endQ, endR, endV, rvars, rvar, room1, ↓reduceIte, Nat.reduceEqDiff, Nat.reduceLT, Nat.reduceLeDiff, reduceCtorEq, decide_true, decide_false, List.filterMap_cons, List.filterMap_nil, Option.bind_some, Option.map_some, Option.bind_none, Option.map_none, List.getElem?_cons_zero, List.getElem?_cons_succ, List.getD_cons_zero, List.getD_cons_succ, List.contains_cons, List.contains_nil, List.map_cons, List.map_nil, beq_self_eq_true, beq_iff_eq, Bool.or_false, Bool.false_or, Bool.or_true, Bool.true_or, Bool.and_true, Bool.true_and, Nat.reduceBEq, Bool.false_eq_true, dbin, dIntBin, okR, callG, endN, newV, rowS, frzS, frzOf_def, frz_nil, frz_cons, frzD, rowList, rowElem, stepRow, madeRow, isLocal, isAlloc, loadsOwn, ptrAt, beq_true, beq_false, Bool.not_true, Bool.not_false, pureB, leaf, leafN, List.all_cons, List.all_nil, List.nil_append, List.cons_append, List.append_nil, List.take_nil, List.range_zero, List.length_nil, List.length_cons, String.reduceBEq, Bool.true_beq, Bool.false_beq, List.find?_cons, List.find?_nil, dun, List.getElem?_nil, List.take_zero, List.drop_zero, List.take_succ_cons, List.drop_succ_cons, dcells, Nat.zero_add, Nat.reduceAdd, Nat.reduceSub, Nat.reduceMul, stepBox, Bool.and_false, Bool.false_and, and_true, true_and, List.zipWith, Option.getD_some, List.singleton_append, List.map_map, Int.natCast_nonneg, Int.toNat_natCast, and_self, Nat.mul_one, Nat.add_zero, if_true, St.freeze, false_or, or_true, true_or, or_false, szOk_cons, szOk_nil, List.cons.injEq, false_and, and_false, forall_const, List.getElem?_toArray, List.getElem_toArray, dopt, dbound, ge_iff_le, gt_iff_lt, dStrBin, List.take_length, plainR_s, Int.reduceLE, Int.reduceLT, Int.reduceToNat, Int.reduceBEq, Int.reduceBNe, isBar, optIn, allocKeys, takes, ptrArgs, callArgs, ptrIn_nil, ptrIn_int, ptrIn_bool, ptrIn_str, ptrIn_agg, ptrIn_list, ptrIn_fix, ptrIn_con, ptrIn_ptr, ptrIn1, ren, ren1, argOk, argOk1, given, oroom, clearR, vroom, nilR, Option.isSome_none, Option.isSome_some, stepTake, stepPtr, notAgg, ite_self, ty3, dp3, ty4, dp4, ty9, dp9, len9, ty33, dp33, fa33_0, fp33_0, fa33_1, fp33_1, fa33_2, fp33_2, ty35, dp35, fa35_0, fp35_0, fa35_1, fp35_1, ty37, dp37, fa37_0, fp37_0, fa37_1, fp37_1, fa37_2, fp37_2, fa37_3, fp37_3, fa37_4, fp37_4, fa37_5, fp37_5, fa37_6, fp37_6, fa37_7, fp37_7, ty46, dp46, fa46_0, fp46_0, fa46_1, fp46_1, ty30, dp30, fa30_0, fp30_0, ty39, dp39, fa39_0, fp39_0, fa39_1, fp39_1, fa39_2, fp39_2, dp33_4_11, dp35_8_11, ty44, dp44, ia44, len44, ty28, dp28, ia28, len28, ty22, dp22, ia22, len22, frzOps_nil, noEatS, putR3, zr37, zr46, zr30, zrm37, zrm46, zrm30, eq33, eq35, ptrIn_fn0, ptrIn_fn1, Option.some.injEq, List.drop_nil, lenOk_small]; rfl) : p := by rw [h]; exact k
theorem I {p : Prop} (h : p := by first | (simp only [*, go_nil, go_seq, go_cond, go_block, go_blk, go_skip, go_exit, go_retc, go_xcode, go_xblk, go_loop, go_region, go_draw, go_ops_nil, go_dops_nil, go_ops, go_dops, okG_some, okB_some, gwD_bool, gwD_undef, cwD_bool, gw_true, gw_false, guardG_none, guardG, opG, opD, isPtr, inB, sval, stake, eats, eaters, get, cval, cval1, croom, St.taken, put_slot, put_room, put_box, put_ctr, put_none, dem_none, dem_slot, dem_box, dem_ctr, dem_room, dem_room1, setBox_slot, setBox_room, setBox_ctr, setBox_box, entry_slot, entry_room, entry_box, entry_ctr, endQ, endR, endV, rvars, rvar, room1, ↓reduceIte, Nat.reduceEqDiff, Nat.reduceLT, Nat.reduceLeDiff, reduceCtorEq, decide_true, decide_false, List.filterMap_cons, List.filterMap_nil, Option.bind_some, Option.map_some, Option.bind_none, Option.map_none, List.getElem?_cons_zero, List.getElem?_cons_succ, List.getD_cons_zero, List.getD_cons_succ, List.contains_cons, List.contains_nil, List.map_cons, List.map_nil, beq_self_eq_true, beq_iff_eq, Bool.or_false, Bool.false_or, Bool.or_true, Bool.true_or, Bool.and_true, Bool.true_and, Nat.reduceBEq, Bool.false_eq_true, dbin, dIntBin, okR, callG, endN, newV, rowS, frzS, frzOf_def, frz_nil, frz_cons, frzD, rowList, rowElem, stepRow, madeRow, isLocal, isAlloc, loadsOwn, ptrAt, beq_true, beq_false, Bool.not_true, Bool.not_false, pureB, leaf, leafN, List.all_cons, List.all_nil, List.nil_append, List.cons_append, List.append_nil, List.take_nil, List.range_zero, List.length_nil, List.length_cons, String.reduceBEq, Bool.true_beq, Bool.false_beq, List.find?_cons, List.find?_nil, dun, List.getElem?_nil, List.take_zero, List.drop_zero, List.take_succ_cons, List.drop_succ_cons, dcells, Nat.zero_add, Nat.reduceAdd, Nat.reduceSub, Nat.reduceMul, stepBox, Bool.and_false, Bool.false_and, and_true, true_and, List.zipWith, Option.getD_some, List.singleton_append, List.map_map, Int.natCast_nonneg, Int.toNat_natCast, and_self, Nat.mul_one, Nat.add_zero, if_true, St.freeze, false_or, or_true, true_or, or_false, szOk_cons, szOk_nil, List.cons.injEq, false_and, and_false, forall_const, List.getElem?_toArray, List.getElem_toArray, dopt, dbound, ge_iff_le, gt_iff_lt, dStrBin, List.take_length, plainR_s, Int.reduceLE, Int.reduceLT, Int.reduceToNat, Int.reduceBEq, Int.reduceBNe, isBar, optIn, allocKeys, takes, ptrArgs, callArgs, ptrIn_nil, ptrIn_int, ptrIn_bool, ptrIn_str, ptrIn_agg, ptrIn_list, ptrIn_fix, ptrIn_con, ptrIn_ptr, ptrIn1, ren, ren1, argOk, argOk1, given, oroom, clearR, vroom, nilR, Option.isSome_none, Option.isSome_some, stepTake, stepPtr, notAgg, ite_self, ty3, dp3, ty4, dp4, ty9, dp9, len9, ty33, dp33, fa33_0, fp33_0, fa33_1, fp33_1, fa33_2, fp33_2, ty35, dp35, fa35_0, fp35_0, fa35_1, fp35_1, ty37, dp37, fa37_0, fp37_0, fa37_1, fp37_1, fa37_2, fp37_2, fa37_3, fp37_3, fa37_4, fp37_4, fa37_5, fp37_5, fa37_6, fp37_6, fa37_7, fp37_7, ty46, dp46, fa46_0, fp46_0, fa46_1, fp46_1, ty30, dp30, fa30_0, fp30_0, ty39, dp39, fa39_0, fp39_0, fa39_1, fp39_1, fa39_2, fp39_2, dp33_4_11, dp35_8_11, ty44, dp44, ia44, len44, ty28, dp28, ia28, len28, ty22, dp22, ia22, len22, frzOps_nil, noEatS, putR3, zr37, zr46, zr30, zrm37, zrm46, zrm30, eq33, eq35, ptrIn_fn0, ptrIn_fn1, Option.some.injEq, List.drop_nil, lenOk_small]; done) | (simp only [*, go_nil, go_seq, go_cond, go_block, go_blk, go_skip, go_exit, go_retc, go_xcode, go_xblk, go_loop, go_region, go_draw, go_ops_nil, go_dops_nil, go_ops, go_dops, okG_some, okB_some, gwD_bool, gwD_undef, cwD_bool, gw_true, gw_false, guardG_none, guardG, opG, opD, isPtr, inB, sval, stake, eats, eaters, get, cval, cval1, croom, St.taken, put_slot, put_room, put_box, put_ctr, put_none, dem_none, dem_slot, dem_box, dem_ctr, dem_room, dem_room1, setBox_slot, setBox_room, setBox_ctr, setBox_box, entry_slot, entry_room, entry_box, entry_ctr, endQ, endR, endV, rvars, rvar, room1, ↓reduceIte, Nat.reduceEqDiff, Nat.reduceLT, Nat.reduceLeDiff, reduceCtorEq, decide_true, decide_false, List.filterMap_cons, List.filterMap_nil, Option.bind_some, Option.map_some, Option.bind_none, Option.map_none, List.getElem?_cons_zero, List.getElem?_cons_succ, List.getD_cons_zero, List.getD_cons_succ, List.contains_cons, List.contains_nil, List.map_cons, List.map_nil, beq_self_eq_true, beq_iff_eq, Bool.or_false, Bool.false_or, Bool.or_true, Bool.true_or, Bool.and_true, Bool.true_and, Nat.reduceBEq, Bool.false_eq_true, dbin, dIntBin, okR, callG, endN, newV, rowS, frzS, frzOf_def, frz_nil, frz_cons, frzD, rowList, rowElem, stepRow, madeRow, isLocal, isAlloc, loadsOwn, ptrAt, beq_true, beq_false, Bool.not_true, Bool.not_false, pureB, leaf, leafN, List.all_cons, List.all_nil, List.nil_append, List.cons_append, List.append_nil, List.take_nil, List.range_zero, List.length_nil, List.length_cons, String.reduceBEq, Bool.true_beq, Bool.false_beq, List.find?_cons, List.find?_nil, dun, List.getElem?_nil, List.take_zero, List.drop_zero, List.take_succ_cons, List.drop_succ_cons, dcells, Nat.zero_add, Nat.reduceAdd, Nat.reduceSub, Nat.reduceMul, stepBox, Bool.and_false, Bool.false_and, and_true, true_and, List.zipWith, Option.getD_some, List.singleton_append, List.map_map, Int.natCast_nonneg, Int.toNat_natCast, and_self, Nat.mul_one, Nat.add_zero, if_true, St.freeze, false_or, or_true, true_or, or_false, szOk_cons, szOk_nil, List.cons.injEq, false_and, and_false, forall_const, List.getElem?_toArray, List.getElem_toArray, dopt, dbound, ge_iff_le, gt_iff_lt, dStrBin, List.take_length, plainR_s, Int.reduceLE, Int.reduceLT, Int.reduceToNat, Int.reduceBEq, Int.reduceBNe, isBar, optIn, allocKeys, takes, ptrArgs, callArgs, ptrIn_nil, ptrIn_int, ptrIn_bool, ptrIn_str, ptrIn_agg, ptrIn_list, ptrIn_fix, ptrIn_con, ptrIn_ptr, ptrIn1, ren, ren1, argOk, argOk1, given, oroom, clearR, vroom, nilR, Option.isSome_none, Option.isSome_some, stepTake, stepPtr, notAgg, ite_self, ty3, dp3, ty4, dp4, ty9, dp9, len9, ty33, dp33, fa33_0, fp33_0, fa33_1, fp33_1, fa33_2, fp33_2, ty35, dp35, fa35_0, fp35_0, fa35_1, fp35_1, ty37, dp37, fa37_0, fp37_0, fa37_1, fp37_1, fa37_2, fp37_2, fa37_3, fp37_3, fa37_4, fp37_4, fa37_5, fp37_5, fa37_6, fp37_6, fa37_7, fp37_7, ty46, dp46, fa46_0, fp46_0, fa46_1, fp46_1, ty30, dp30, fa30_0, fp30_0, ty39, dp39, fa39_0, fp39_0, fa39_1, fp39_1, fa39_2, fp39_2, dp33_4_11, dp35_8_11, ty44, dp44, ia44, len44, ty28, dp28, ia28, len28, ty22, dp22, ia22, len22, frzOps_nil, noEatS, putR3, zr37, zr46, zr30, zrm37, zrm46, zrm30, eq33, eq35, ptrIn_fn0, ptrIn_fn1, Option.some.injEq, List.drop_nil, lenOk_small]; rfl) | rfl) : p := h
theorem Z {p : Prop} (h : p := by simp only [slotI, *, go_nil, go_seq, go_cond, go_block, go_blk, go_skip, go_exit, go_retc, go_xcode, go_xblk, go_loop, go_region, go_draw, go_ops_nil, go_dops_nil, go_ops, go_dops, okG_some, okB_some, gwD_bool, gwD_undef, cwD_bool, gw_true, gw_false, guardG_none, guardG, opG, opD, isPtr, inB, sval, stake, eats, eaters, get, cval, cval1, croom, St.taken, put_slot, put_room, put_box, put_ctr, put_none, dem_none, dem_slot, dem_box, dem_ctr, dem_room, dem_room1, setBox_slot, setBox_room, setBox_ctr, setBox_box, entry_slot, entry_room, entry_box, entry_ctr, endQ, endR, endV, rvars, rvar, room1, ↓reduceIte, Nat.reduceEqDiff, Nat.reduceLT, Nat.reduceLeDiff, reduceCtorEq, decide_true, decide_false, List.filterMap_cons, List.filterMap_nil, Option.bind_some, Option.map_some, Option.bind_none, Option.map_none, List.getElem?_cons_zero, List.getElem?_cons_succ, List.getD_cons_zero, List.getD_cons_succ, List.contains_cons, List.contains_nil, List.map_cons, List.map_nil, beq_self_eq_true, beq_iff_eq, Bool.or_false, Bool.false_or, Bool.or_true, Bool.true_or, Bool.and_true, Bool.true_and, Nat.reduceBEq, Bool.false_eq_true, dbin, dIntBin, okR, callG, endN, newV, rowS, frzS, frzOf_def, frz_nil, frz_cons, frzD, rowList, rowElem, stepRow, madeRow, isLocal, isAlloc, loadsOwn, ptrAt, beq_true, beq_false, Bool.not_true, Bool.not_false, pureB, leaf, leafN, List.all_cons, List.all_nil, List.nil_append, List.cons_append, List.append_nil, List.take_nil, List.range_zero, List.length_nil, List.length_cons, String.reduceBEq, Bool.true_beq, Bool.false_beq, List.find?_cons, List.find?_nil, dun, List.getElem?_nil, List.take_zero, List.drop_zero, List.take_succ_cons, List.drop_succ_cons, dcells, Nat.zero_add, Nat.reduceAdd, Nat.reduceSub, Nat.reduceMul, stepBox, Bool.and_false, Bool.false_and, and_true, true_and, List.zipWith, Option.getD_some, List.singleton_append, List.map_map, Int.natCast_nonneg, Int.toNat_natCast, and_self, Nat.mul_one, Nat.add_zero, if_true, St.freeze, false_or, or_true, true_or, or_false, szOk_cons, szOk_nil, List.cons.injEq, false_and, and_false, forall_const, List.getElem?_toArray, List.getElem_toArray, dopt, dbound, ge_iff_le, gt_iff_lt, dStrBin, List.take_length, plainR_s, Int.reduceLE, Int.reduceLT, Int.reduceToNat, Int.reduceBEq, Int.reduceBNe, isBar, optIn, allocKeys, takes, ptrArgs, callArgs, ptrIn_nil, ptrIn_int, ptrIn_bool, ptrIn_str, ptrIn_agg, ptrIn_list, ptrIn_fix, ptrIn_con, ptrIn_ptr, ptrIn1, ren, ren1, argOk, argOk1, given, oroom, clearR, vroom, nilR, Option.isSome_none, Option.isSome_some, stepTake, stepPtr, notAgg, ite_self, ty3, dp3, ty4, dp4, ty9, dp9, len9, ty33, dp33, fa33_0, fp33_0, fa33_1, fp33_1, fa33_2, fp33_2, ty35, dp35, fa35_0, fp35_0, fa35_1, fp35_1, ty37, dp37, fa37_0, fp37_0, fa37_1, fp37_1, fa37_2, fp37_2, fa37_3, fp37_3, fa37_4, fp37_4, fa37_5, fp37_5, fa37_6, fp37_6, fa37_7, fp37_7, ty46, dp46, fa46_0, fp46_0, fa46_1, fp46_1, ty30, dp30, fa30_0, fp30_0, ty39, dp39, fa39_0, fp39_0, fa39_1, fp39_1, fa39_2, fp39_2, dp33_4_11, dp35_8_11, ty44, dp44, ia44, len44, ty28, dp28, ia28, len28, ty22, dp22, ia22, len22, frzOps_nil, noEatS, putR3, zr37, zr46, zr30, zrm37, zrm46, zrm30, eq33, eq35, ptrIn_fn0, ptrIn_fn1, Option.some.injEq, List.drop_nil, lenOk_small]; omega) : p := h
theorem L {p : Prop} (h : p := by simp only [*, put_slot, put_room, put_box, put_ctr, put_none, dem_none, dem_slot, dem_box, dem_ctr, dem_room, dem_room1, setBox_slot, setBox_room, setBox_ctr, setBox_box, entry_slot, entry_room, entry_box, entry_ctr, St.taken, Option.some.injEq, List.cons.injEq, List.map_nil, List.map_cons, beq_self_eq_true, and_true, true_and, or_true, true_or, or_false, false_or, and_self, ↓reduceIte, Nat.reduceEqDiff, Nat.reduceLT, Nat.reduceLeDiff, reduceCtorEq]) : p := h
end Go.Av
namespace Go.Av
open Go.Proofs
variable {ext : Call}
def zipAll (E : D → D → Bool) : List D → List D → Bool
  | [], [] => true
  | x :: r, y :: t => E x y && zipAll E r t
  | _, _ => false
theorem zip_len (E : D → D → Bool) : ∀ (a b : List D), a.length ≠ b.length → zipAll E a b = false
  | [], [], h => absurd rfl h
  | [], _ :: _, _ => rfl
  | _ :: _, [], _ => rfl
  | x :: r, y :: t, h => by rw [zipAll, zip_len E r t (fun e => h (by simp [e])), Bool.and_false]
theorem zip_at {E : D → D → Bool} {a b : List D} {i : Nat} {x y : D} (hx : a[i]? = some x) (hy : b[i]? = some y) : zipAll E (a.drop i) (b.drop i) = (E x y && zipAll E (a.drop (i + 1)) (b.drop (i + 1))) := by
  have h1 : i < a.length := (List.getElem?_eq_some_iff.1 hx).1
  have e1 : a[i] = x := (List.getElem?_eq_some_iff.1 hx).2
  have h2 : i < b.length := (List.getElem?_eq_some_iff.1 hy).1
  have e2 : b[i] = y := (List.getElem?_eq_some_iff.1 hy).2
  rw [List.drop_eq_getElem_cons h1, e1, List.drop_eq_getElem_cons h2, e2, zipAll]
theorem zip_end {E : D → D → Bool} {a b : List D} {i : Nat} (h1 : a.length ≤ i) (h2 : b.length ≤ i) : zipAll E (a.drop i) (b.drop i) = true := by
  rw [List.drop_eq_nil_of_le h1, List.drop_eq_nil_of_le h2]; rfl
theorem zip_refl {E : D → D → Bool} : ∀ (a : List D), (∀ x ∈ a, E x x = true) → zipAll E a a = true
  | [], _ => rfl
  | x :: r, h => by rw [zipAll, h x (List.mem_cons_self ..), zip_refl r fun y hy => h y (List.mem_cons_of_mem _ hy)]; rfl
def sameS (R : Bool) (s t : Sf) : Bool := s.kd == t.kd && (s.ns == t.ns && (s.pre == t.pre && (s.nm == t.nm && ((s.op == t.op && (s.tx == t.tx && s.fold == t.fold)) && (s.mark == t.mark && ((s.a == t.a && s.b == t.b) && R))))))
def sameP (E : D → D → Bool) (p q : D) : Bool := cpC p == cpC q && zipAll E (cpL p) (cpL q)
def sameLk : Nat → List D → List D → Bool
  | 0, _, _ => true
  | k + 1, a, b => zipAll (fun x y => zipAll (sameP fun s t => sameS (sameLk k (sf s).of_ (sf t).of_) (sf s) (sf t)) (cxL x) (cxL y)) a b
theorem sameLk_refl : ∀ (k : Nat) (a : List D), sameLk k a a = true
  | 0, _ => rfl
  | k + 1, a => zip_refl a fun x _ => zip_refl _ fun p _ => by
    unfold sameP
    rw [zip_refl _ fun s _ => by unfold sameS; rw [sameLk_refl k]; simp]
    simp
theorem getD_of {l : List D} {i : Nat} {x : D} (h : l[i]? = some x) : l.getD i .bad = x := by simp [List.getD, h]
theorem wrapS (i : Nat) (h : i ≤ 140737488355328) : IntKind.i64.wrap ((i : Int) + 1) = ((i + 1 : Nat) : Int) := by
  rw [wrap64 _ (by omega) (by omega)]
  omega
theorem some_at {α : Type} {xs : List α} {i : Nat} (h : i < xs.length) : ∃ x, xs[i]? = some x := ⟨_, List.getElem?_eq_getElem h⟩
theorem len_ne {a b : Nat} (h : a ≠ b) : ((a : Int) != (b : Int)) = true := by simp; omega
theorem len_eq {a b : Nat} (h : a = b) : ((a : Int) != (b : Int)) = false := by simp [h]
set_option maxHeartbeats 8000000 in
theorem eqC_L (a b : List D) (clo : FuncId) (E : D → D → Bool) (hla : a.length ≤ 1000000) (hlb : b.length ≤ 1000000) (ha : ∀ x ∈ a, x = .agg [.list (cxL x)]) (hb : ∀ x ∈ b, x = .agg [.list (cxL x)]) (hc : ∀ x ∈ a, ∀ y ∈ b, callL Try.prog ext clo [.agg [.list (cxL x)], .agg [.list (cxL y)]] [] = some (.bool (E x y), [.no], [])) (hx : ∀ f args pbs, f = 13 → ext f args pbs = none) :
    callL Try.prog ext 13 [.list a, .list b, .func (.func clo) [] []] [] = some (.bool (zipAll E a b), [.no], []) := by
  by_cases hne : a.length = b.length
  · have hb0 := len_eq hne
    have HA := Hd.mk ha
    have HB := Hd.mk hb
    have HC := Hd.mk hc
    have HE := Hd.mk hne
    have HL := Hd.mk hla
    clear ha hb hc hne hla hlb
    obtain ⟨R, hR⟩ : ∃ R, Hd (R = zipAll E a b) := ⟨_, rfl⟩
    rw [← (show R = zipAll E a b from hR)]
    refine callK (m := 32) (res := [6]) (rs := [.tmp 6]) (hx _ _ _ rfl) Try.func13 rfl rfl rfl rfl rfl ?_
    refine G ?_
    refine loopH (fun st => ∃ i : Nat, i ≤ a.length ∧ st.slot 15 = .list a ∧ st.slot 16 = .int .i64 a.length ∧ st.slot 17 = .int .i64 i ∧ st.slot 0 = .list a ∧ st.slot 1 = .list b ∧ st.slot 2 = .func (.func clo) [] [] ∧ st.slot 6 = .bool false ∧ st.room 6 = [] ∧ Hd (R = zipAll E (a.drop i) (b.drop i))) (fun st => a.length - slotI st 17) ?_ ?_
    · exact ⟨0, Nat.zero_le _, I, I, I, I, I, I, I, I, hR⟩
    · rintro st K ⟨i, hi, g6, g7, g8, g0, g1, g2, g3, gr, hO⟩ hn hx hr
      have hla : a.length ≤ 1000000 := HL
      have hne : a.length = b.length := HE
      have hO' : R = zipAll E (a.drop i) (b.drop i) := hO
      by_cases h : i < a.length
      · have g9 : (i : Int) < a.length := by omega
        have g9' : (i : Int) < b.length := by omega
        have hw := wrapS i (by omega)
        obtain ⟨x, hx1⟩ := some_at h
        obtain ⟨y, hy1⟩ := some_at (show i < b.length by omega)
        rw [zip_at hx1 hy1] at hO'
        have mx := List.mem_of_getElem? hx1
        have my := List.mem_of_getElem? hy1
        have hca := (show ∀ x ∈ a, ∀ y ∈ b, _ from HC) x mx y my
        have ga := (getD_of hx1).trans ((show ∀ x ∈ a, _ from HA) x mx)
        have gb := (getD_of hy1).trans ((show ∀ x ∈ b, _ from HB) y my)
        generalize E x y = v at *
        generalize cxL x = X at *
        generalize cxL y = Y at *
        clear hx1 hy1 mx my hla hne hx
        cases v with
        | false =>
          rw [Bool.false_and] at hO'
          subst hO'
          clear hO hn hR
          refine G ?_
          exact hr _ W
        | true =>
          rw [Bool.true_and] at hO'
          have HO := Hd.mk hO'
          clear hO hO' hr
          refine G ?_
          exact hn _ ⟨i + 1, h, L, L, L, L, L, L, L, L, HO⟩ Z
      · have g9 : ¬ (i : Int) < a.length := by omega
        rw [zip_end (by omega) (by omega)] at hO'
        subst hO'
        clear hO hn hr hR hne
        refine G ?_
        refine hx _ _ ?_
        exact W
  · have hb0 := len_ne hne
    rw [zip_len E a b hne]
    clear ha hb hc hne hla hlb
    exact callK (m := 32) (res := [6]) (rs := [.tmp 6]) (hx _ _ _ rfl) Try.func13 rfl rfl rfl rfl rfl W
set_option maxHeartbeats 8000000 in
theorem eqP_L (a b : List D) (clo : FuncId) (E : D → D → Bool) (hla : a.length ≤ 1000000) (hlb : b.length ≤ 1000000) (ha : ∀ x ∈ a, x = .agg [.int .i64 (cpC x), .list (cpL x)]) (hb : ∀ x ∈ b, x = .agg [.int .i64 (cpC x), .list (cpL x)]) (hc : ∀ x ∈ a, ∀ y ∈ b, callL Try.prog ext clo [.agg [.int .i64 (cpC x), .list (cpL x)], .agg [.int .i64 (cpC y), .list (cpL y)]] [] = some (.bool (E x y), [.no], [])) (hx : ∀ f args pbs, f = 15 → ext f args pbs = none) :
    callL Try.prog ext 15 [.list a, .list b, .func (.func clo) [] []] [] = some (.bool (zipAll E a b), [.no], []) := by
  by_cases hne : a.length = b.length
  · have hb0 := len_eq hne
    have HA := Hd.mk ha
    have HB := Hd.mk hb
    have HC := Hd.mk hc
    have HE := Hd.mk hne
    have HL := Hd.mk hla
    clear ha hb hc hne hla hlb
    obtain ⟨R, hR⟩ : ∃ R, Hd (R = zipAll E a b) := ⟨_, rfl⟩
    rw [← (show R = zipAll E a b from hR)]
    refine callK (m := 32) (res := [6]) (rs := [.tmp 6]) (hx _ _ _ rfl) Try.func15 rfl rfl rfl rfl rfl ?_
    refine G ?_
    refine loopH (fun st => ∃ i : Nat, i ≤ a.length ∧ st.slot 15 = .list a ∧ st.slot 16 = .int .i64 a.length ∧ st.slot 17 = .int .i64 i ∧ st.slot 0 = .list a ∧ st.slot 1 = .list b ∧ st.slot 2 = .func (.func clo) [] [] ∧ st.slot 6 = .bool false ∧ st.room 6 = [] ∧ Hd (R = zipAll E (a.drop i) (b.drop i))) (fun st => a.length - slotI st 17) ?_ ?_
    · exact ⟨0, Nat.zero_le _, I, I, I, I, I, I, I, I, hR⟩
    · rintro st K ⟨i, hi, g6, g7, g8, g0, g1, g2, g3, gr, hO⟩ hn hx hr
      have hla : a.length ≤ 1000000 := HL
      have hne : a.length = b.length := HE
      have hO' : R = zipAll E (a.drop i) (b.drop i) := hO
      by_cases h : i < a.length
      · have g9 : (i : Int) < a.length := by omega
        have g9' : (i : Int) < b.length := by omega
        have hw := wrapS i (by omega)
        obtain ⟨x, hx1⟩ := some_at h
        obtain ⟨y, hy1⟩ := some_at (show i < b.length by omega)
        rw [zip_at hx1 hy1] at hO'
        have mx := List.mem_of_getElem? hx1
        have my := List.mem_of_getElem? hy1
        have hca := (show ∀ x ∈ a, ∀ y ∈ b, _ from HC) x mx y my
        have ga := (getD_of hx1).trans ((show ∀ x ∈ a, _ from HA) x mx)
        have gb := (getD_of hy1).trans ((show ∀ x ∈ b, _ from HB) y my)
        generalize E x y = v at *
        generalize cpL x = X at *
        generalize cpL y = Y at *
        generalize cpC x = cx at *
        generalize cpC y = cy at *
        clear hx1 hy1 mx my hla hne hx
        cases v with
        | false =>
          rw [Bool.false_and] at hO'
          subst hO'
          clear hO hn hR
          refine G ?_
          exact hr _ W
        | true =>
          rw [Bool.true_and] at hO'
          have HO := Hd.mk hO'
          clear hO hO' hr
          refine G ?_
          exact hn _ ⟨i + 1, h, L, L, L, L, L, L, L, L, HO⟩ Z
      · have g9 : ¬ (i : Int) < a.length := by omega
        rw [zip_end (by omega) (by omega)] at hO'
        subst hO'
        clear hO hn hr hR hne
        refine G ?_
        refine hx _ _ ?_
        exact W
  · have hb0 := len_ne hne
    rw [zip_len E a b hne]
    clear ha hb hc hne hla hlb
    exact callK (m := 32) (res := [6]) (rs := [.tmp 6]) (hx _ _ _ rfl) Try.func15 rfl rfl rfl rfl rfl W
set_option maxHeartbeats 8000000 in
theorem eqS_L (a b : List D) (clo : FuncId) (E : D → D → Bool) (hla : a.length ≤ 1000000) (hlb : b.length ≤ 1000000) (ha : ∀ x ∈ a, x = .agg [.int .i64 (sf x).kd, .int .i64 (sf x).ns, .str (sf x).pre, .str (sf x).nm, .int .i64 (sf x).op, .str (sf x).tx, .bool (sf x).fold, .int .i64 (sf x).mark, .int .i64 (sf x).a, .int .i64 (sf x).b, .list (sf x).of_]) (hb : ∀ x ∈ b, x = .agg [.int .i64 (sf x).kd, .int .i64 (sf x).ns, .str (sf x).pre, .str (sf x).nm, .int .i64 (sf x).op, .str (sf x).tx, .bool (sf x).fold, .int .i64 (sf x).mark, .int .i64 (sf x).a, .int .i64 (sf x).b, .list (sf x).of_]) (hc : ∀ x ∈ a, ∀ y ∈ b, callL Try.prog ext clo [.agg [.int .i64 (sf x).kd, .int .i64 (sf x).ns, .str (sf x).pre, .str (sf x).nm, .int .i64 (sf x).op, .str (sf x).tx, .bool (sf x).fold, .int .i64 (sf x).mark, .int .i64 (sf x).a, .int .i64 (sf x).b, .list (sf x).of_], .agg [.int .i64 (sf y).kd, .int .i64 (sf y).ns, .str (sf y).pre, .str (sf y).nm, .int .i64 (sf y).op, .str (sf y).tx, .bool (sf y).fold, .int .i64 (sf y).mark, .int .i64 (sf y).a, .int .i64 (sf y).b, .list (sf y).of_]] [] = some (.bool (E x y), [.no], [])) (hx : ∀ f args pbs, f = 17 → ext f args pbs = none) :
    callL Try.prog ext 17 [.list a, .list b, .func (.func clo) [] []] [] = some (.bool (zipAll E a b), [.no], []) := by
  by_cases hne : a.length = b.length
  · have hb0 := len_eq hne
    have HA := Hd.mk ha
    have HB := Hd.mk hb
    have HC := Hd.mk hc
    have HE := Hd.mk hne
    have HL := Hd.mk hla
    clear ha hb hc hne hla hlb
    obtain ⟨R, hR⟩ : ∃ R, Hd (R = zipAll E a b) := ⟨_, rfl⟩
    rw [← (show R = zipAll E a b from hR)]
    refine callK (m := 32) (res := [6]) (rs := [.tmp 6]) (hx _ _ _ rfl) Try.func17 rfl rfl rfl rfl rfl ?_
    refine G ?_
    refine loopH (fun st => ∃ i : Nat, i ≤ a.length ∧ st.slot 15 = .list a ∧ st.slot 16 = .int .i64 a.length ∧ st.slot 17 = .int .i64 i ∧ st.slot 0 = .list a ∧ st.slot 1 = .list b ∧ st.slot 2 = .func (.func clo) [] [] ∧ st.slot 6 = .bool false ∧ st.room 6 = [] ∧ Hd (R = zipAll E (a.drop i) (b.drop i))) (fun st => a.length - slotI st 17) ?_ ?_
    · exact ⟨0, Nat.zero_le _, I, I, I, I, I, I, I, I, hR⟩
    · rintro st K ⟨i, hi, g6, g7, g8, g0, g1, g2, g3, gr, hO⟩ hn hx hr
      have hla : a.length ≤ 1000000 := HL
      have hne : a.length = b.length := HE
      have hO' : R = zipAll E (a.drop i) (b.drop i) := hO
      by_cases h : i < a.length
      · have g9 : (i : Int) < a.length := by omega
        have g9' : (i : Int) < b.length := by omega
        have hw := wrapS i (by omega)
        obtain ⟨x, hx1⟩ := some_at h
        obtain ⟨y, hy1⟩ := some_at (show i < b.length by omega)
        rw [zip_at hx1 hy1] at hO'
        have mx := List.mem_of_getElem? hx1
        have my := List.mem_of_getElem? hy1
        have hca := (show ∀ x ∈ a, ∀ y ∈ b, _ from HC) x mx y my
        have ga := (getD_of hx1).trans ((show ∀ x ∈ a, _ from HA) x mx)
        have gb := (getD_of hy1).trans ((show ∀ x ∈ b, _ from HB) y my)
        generalize E x y = v at *
        generalize sf x = X at *
        generalize sf y = Y at *
        clear hx1 hy1 mx my hla hne hx
        cases v with
        | false =>
          rw [Bool.false_and] at hO'
          subst hO'
          clear hO hn hR
          refine G ?_
          exact hr _ W
        | true =>
          rw [Bool.true_and] at hO'
          have HO := Hd.mk hO'
          clear hO hO' hr
          refine G ?_
          exact hn _ ⟨i + 1, h, L, L, L, L, L, L, L, L, HO⟩ Z
      · have g9 : ¬ (i : Int) < a.length := by omega
        rw [zip_end (by omega) (by omega)] at hO'
        subst hO'
        clear hO hn hr hR hne
        refine G ?_
        refine hx _ _ ?_
        exact W
  · have hb0 := len_ne hne
    rw [zip_len E a b hne]
    clear ha hb hc hne hla hlb
    exact callK (m := 32) (res := [6]) (rs := [.tmp 6]) (hx _ _ _ rfl) Try.func17 rfl rfl rfl rfl rfl W
theorem alike_L (s t : Sf) (R : Bool) (h : callL Try.prog ext 6 [.list s.of_, .list t.of_] [] = some (.bool R, [.no], [])) (hx : ∀ f args pbs, f = 18 → ext f args pbs = none) :
    callL Try.prog ext 18 [.agg [.int .i64 s.kd, .int .i64 s.ns, .str s.pre, .str s.nm, .int .i64 s.op, .str s.tx, .bool s.fold, .int .i64 s.mark, .int .i64 s.a, .int .i64 s.b, .list s.of_], .agg [.int .i64 t.kd, .int .i64 t.ns, .str t.pre, .str t.nm, .int .i64 t.op, .str t.tx, .bool t.fold, .int .i64 t.mark, .int .i64 t.a, .int .i64 t.b, .list t.of_]] [] = some (.bool (sameS R s t), [.no], []) := by
  unfold sameS
  obtain ⟨s0, s1, s2, s3, s4, s5, s6, s7, s8, s9, so⟩ := s
  obtain ⟨t0, t1, t2, t3, t4, t5, t6, t7, t8, t9, to⟩ := t
  dsimp only at h ⊢
  cases c0 : (s0 == t0)
  · exact callK (m := 59) (res := [4]) (rs := [.tmp 4]) (hx _ _ _ rfl) Try.func18 rfl rfl rfl rfl rfl W
  cases c1 : (s1 == t1)
  · exact callK (m := 59) (res := [4]) (rs := [.tmp 4]) (hx _ _ _ rfl) Try.func18 rfl rfl rfl rfl rfl W
  cases c2 : (s2 == t2)
  · exact callK (m := 59) (res := [4]) (rs := [.tmp 4]) (hx _ _ _ rfl) Try.func18 rfl rfl rfl rfl rfl W
  cases c3 : (s3 == t3)
  · exact callK (m := 59) (res := [4]) (rs := [.tmp 4]) (hx _ _ _ rfl) Try.func18 rfl rfl rfl rfl rfl W
  cases c4 : (s4 == t4 && (s5 == t5 && s6 == t6))
  · exact callK (m := 59) (res := [4]) (rs := [.tmp 4]) (hx _ _ _ rfl) Try.func18 rfl rfl rfl rfl rfl W
  cases c5 : (s7 == t7)
  · exact callK (m := 59) (res := [4]) (rs := [.tmp 4]) (hx _ _ _ rfl) Try.func18 rfl rfl rfl rfl rfl W
  cases c6 : (s8 == t8 && s9 == t9)
  · exact callK (m := 59) (res := [4]) (rs := [.tmp 4]) (hx _ _ _ rfl) Try.func18 rfl rfl rfl rfl rfl W
  exact callK (m := 59) (res := [4]) (rs := [.tmp 4]) (hx _ _ _ rfl) Try.func18 rfl rfl rfl rfl rfl W
theorem rsm_L (s t : Sf) (R : Bool) (h : callL Try.prog ext 7 [.list s.of_, .list t.of_] [] = some (.bool R, [.no], [])) (hx : ∀ f args pbs, f = 19 → ext f args pbs = none) :
    callL Try.prog ext 19 [.agg [.int .i64 s.kd, .int .i64 s.ns, .str s.pre, .str s.nm, .int .i64 s.op, .str s.tx, .bool s.fold, .int .i64 s.mark, .int .i64 s.a, .int .i64 s.b, .list s.of_], .agg [.int .i64 t.kd, .int .i64 t.ns, .str t.pre, .str t.nm, .int .i64 t.op, .str t.tx, .bool t.fold, .int .i64 t.mark, .int .i64 t.a, .int .i64 t.b, .list t.of_]] [] = some (.bool (sameS R s t), [.no], []) := by
  unfold sameS
  obtain ⟨s0, s1, s2, s3, s4, s5, s6, s7, s8, s9, so⟩ := s
  obtain ⟨t0, t1, t2, t3, t4, t5, t6, t7, t8, t9, to⟩ := t
  dsimp only at h ⊢
  cases c0 : (s0 == t0)
  · exact callK (m := 59) (res := [4]) (rs := [.tmp 4]) (hx _ _ _ rfl) Try.func19 rfl rfl rfl rfl rfl W
  cases c1 : (s1 == t1)
  · exact callK (m := 59) (res := [4]) (rs := [.tmp 4]) (hx _ _ _ rfl) Try.func19 rfl rfl rfl rfl rfl W
  cases c2 : (s2 == t2)
  · exact callK (m := 59) (res := [4]) (rs := [.tmp 4]) (hx _ _ _ rfl) Try.func19 rfl rfl rfl rfl rfl W
  cases c3 : (s3 == t3)
  · exact callK (m := 59) (res := [4]) (rs := [.tmp 4]) (hx _ _ _ rfl) Try.func19 rfl rfl rfl rfl rfl W
  cases c4 : (s4 == t4 && (s5 == t5 && s6 == t6))
  · exact callK (m := 59) (res := [4]) (rs := [.tmp 4]) (hx _ _ _ rfl) Try.func19 rfl rfl rfl rfl rfl W
  cases c5 : (s7 == t7)
  · exact callK (m := 59) (res := [4]) (rs := [.tmp 4]) (hx _ _ _ rfl) Try.func19 rfl rfl rfl rfl rfl W
  cases c6 : (s8 == t8 && s9 == t9)
  · exact callK (m := 59) (res := [4]) (rs := [.tmp 4]) (hx _ _ _ rfl) Try.func19 rfl rfl rfl rfl rfl W
  exact callK (m := 59) (res := [4]) (rs := [.tmp 4]) (hx _ _ _ rfl) Try.func19 rfl rfl rfl rfl rfl W
end Go.Av
namespace Go.Av
open Go.Proofs
variable {ext : Call}
def Own8 (ext : Call) : Prop := ∀ f args pbs, (f = 6 ∨ f = 7 ∨ f = 13 ∨ f = 14 ∨ f = 15 ∨ f = 16 ∨ f = 17 ∨ f = 18 ∨ f = 19 ∨ f = 5 ∨ f = 12) → ext f args pbs = none
theorem cl16_L (hx : Own8 ext) (c c' : Int) (Y Y' : List D) (v : Bool) (h : callL Try.prog ext 17 [.list Y, .list Y', .func (.func 18) [] []] [] = some (.bool v, [.no], [])) : callL Try.prog ext 16 [.agg [.int .i64 c, .list Y], .agg [.int .i64 c', .list Y']] [] = some (.bool (c == c' && v), [.no], []) := by
  cases hc : (c == c')
  · exact callK (m := 17) (res := [4]) (rs := [.tmp 4]) (hx _ _ _ (by simp)) Try.func16 rfl rfl rfl rfl rfl W
  · exact callK (m := 17) (res := [4]) (rs := [.tmp 4]) (hx _ _ _ (by simp)) Try.func16 rfl rfl rfl rfl rfl W
theorem cl14_L (hx : Own8 ext) (X X' : List D) (v : Bool) (h : callL Try.prog ext 15 [.list X, .list X', .func (.func 16) [] []] [] = some (.bool v, [.no], [])) : callL Try.prog ext 14 [.agg [.list X], .agg [.list X']] [] = some (.bool v, [.no], []) := by
  exact callK (m := 10) (res := [4]) (rs := [.tmp 4]) (hx _ _ _ (by simp)) Try.func14 rfl rfl rfl rfl rfl W
theorem same_w (hx : Own8 ext) (a b : List D) (v : Bool) (h : callL Try.prog ext 13 [.list a, .list b, .func (.func 14) [] []] [] = some (.bool v, [.no], [])) : callL Try.prog ext 6 [.list a, .list b] [] = some (.bool v, [.no], []) := by
  exact callK (m := 8) (res := [4]) (rs := [.tmp 4]) (hx _ _ _ (by simp)) Try.func6 rfl rfl rfl rfl rfl W
def E1 (k : Nat) (s t : D) : Bool := sameS (sameLk k (sf s).of_ (sf t).of_) (sf s) (sf t)
theorem sameLk_s (k : Nat) (a b : List D) : sameLk (k + 1) a b = zipAll (fun x y => zipAll (sameP (E1 k)) (cxL x) (cxL y)) a b := rfl
set_option maxHeartbeats 4000000 in
theorem same6_L (hx : Own8 ext) : ∀ (k : Nat) (a b : List D), lsOk 1000 (smOk 1000 k) a = true → lsOk 1000 (smOk 1000 k) b = true → callL Try.prog ext 6 [.list a, .list b] [] = some (.bool (sameLk (k + 1) a b), [.no], []) := by
  intro k
  induction k with
  | zero =>
    intro a b ha hb
    obtain ⟨la, ca⟩ := lsOk_mem ha
    obtain ⟨lb, cb⟩ := lsOk_mem hb
    have fa := szL_of ha
    have fb := szL_of hb
    rw [sameLk_s]
    refine same_w hx a b _ (eqC_L a b 14 _ (by omega) (by omega) (fun x h => (fa x h).1) (fun x h => (fb x h).1) (fun x mx y my => ?_) (fun f args pbs h => hx f args pbs (by simp [h])))
    obtain ⟨X, e, lX, cX⟩ := cxOk_inv (ca x mx)
    obtain ⟨X', e', lX', cX'⟩ := cxOk_inv (cb y my)
    have eX : cxL x = X := by rw [e]; rfl
    have eX' : cxL y = X' := by rw [e']; rfl
    refine cl14_L hx _ _ _ (eqP_L _ _ 16 _ (by rw [eX]; omega) (by rw [eX']; omega) (fun p h => ((fa x mx).2 p h).1) (fun p h => ((fb y my).2 p h).1) (fun p mp q mq => ?_) (fun f args pbs h => hx f args pbs (by simp [h])))
    obtain ⟨cc, Y, e2, lY, cY⟩ := cpOk_inv (cX p (eX ▸ mp))
    obtain ⟨cc', Y', e2', lY', cY'⟩ := cpOk_inv (cX' q (eX' ▸ mq))
    have eY : cpL p = Y := by rw [e2]; rfl
    have eY' : cpL q = Y' := by rw [e2']; rfl
    refine cl16_L hx _ _ _ _ _ (eqS_L _ _ 18 _ (by rw [eY]; omega) (by rw [eY']; omega) (fun s h => ((fa x mx).2 p mp).2 s h) (fun s h => ((fb y my).2 q mq).2 s h) (fun s ms t mt => ?_) (fun f args pbs h => hx f args pbs (by simp [h])))
    have := cY s (eY ▸ ms)
    simp [smOk] at this
  | succ k ih =>
    intro a b ha hb
    obtain ⟨la, ca⟩ := lsOk_mem ha
    obtain ⟨lb, cb⟩ := lsOk_mem hb
    have fa := szL_of ha
    have fb := szL_of hb
    rw [sameLk_s]
    refine same_w hx a b _ (eqC_L a b 14 _ (by omega) (by omega) (fun x h => (fa x h).1) (fun x h => (fb x h).1) (fun x mx y my => ?_) (fun f args pbs h => hx f args pbs (by simp [h])))
    obtain ⟨X, e, lX, cX⟩ := cxOk_inv (ca x mx)
    obtain ⟨X', e', lX', cX'⟩ := cxOk_inv (cb y my)
    have eX : cxL x = X := by rw [e]; rfl
    have eX' : cxL y = X' := by rw [e']; rfl
    refine cl14_L hx _ _ _ (eqP_L _ _ 16 _ (by rw [eX]; omega) (by rw [eX']; omega) (fun p h => ((fa x mx).2 p h).1) (fun p h => ((fb y my).2 p h).1) (fun p mp q mq => ?_) (fun f args pbs h => hx f args pbs (by simp [h])))
    obtain ⟨cc, Y, e2, lY, cY⟩ := cpOk_inv (cX p (eX ▸ mp))
    obtain ⟨cc', Y', e2', lY', cY'⟩ := cpOk_inv (cX' q (eX' ▸ mq))
    have eY : cpL p = Y := by rw [e2]; rfl
    have eY' : cpL q = Y' := by rw [e2']; rfl
    refine cl16_L hx _ _ _ _ _ (eqS_L _ _ 18 _ (by rw [eY]; omega) (by rw [eY']; omega) (fun s h => ((fa x mx).2 p mp).2 s h) (fun s h => ((fb y my).2 q mq).2 s h) (fun s ms t mt => ?_) (fun f args pbs h => hx f args pbs (by simp [h])))
    exact alike_L (sf s) (sf t) _ (ih _ _ (smOk_inv (cY s (eY ▸ ms))).2.2.2.2 (smOk_inv (cY' t (eY' ▸ mt))).2.2.2.2) (fun f args pbs h => hx f args pbs (by simp [h]))
structure PairH (call : D → D → Bool → Prop) (E : D → D → Bool) (a b : List D) : Prop where
  la : a.length ≤ 1000000
  lb : b.length ≤ 1000000
  c : ∀ x ∈ a, ∀ y ∈ b, (x = .agg [.list (cxL x)] ∧ y = .agg [.list (cxL y)]) ∧ ((cxL x).length ≤ 1000000 ∧ (cxL y).length ≤ 1000000) ∧ ∀ p ∈ cxL x, ∀ q ∈ cxL y, (p = .agg [.int .i64 (cpC p), .list (cpL p)] ∧ q = .agg [.int .i64 (cpC q), .list (cpL q)]) ∧ ((cpL p).length ≤ 1000000 ∧ (cpL q).length ≤ 1000000) ∧
    ∀ s ∈ cpL p, ∀ t ∈ cpL q, (s = .agg [.int .i64 (sf s).kd, .int .i64 (sf s).ns, .str (sf s).pre, .str (sf s).nm, .int .i64 (sf s).op, .str (sf s).tx, .bool (sf s).fold, .int .i64 (sf s).mark, .int .i64 (sf s).a, .int .i64 (sf s).b, .list (sf s).of_] ∧ t = .agg [.int .i64 (sf t).kd, .int .i64 (sf t).ns, .str (sf t).pre, .str (sf t).nm, .int .i64 (sf t).op, .str (sf t).tx, .bool (sf t).fold, .int .i64 (sf t).mark, .int .i64 (sf t).a, .int .i64 (sf t).b, .list (sf t).of_]) ∧ call (sf s).d (sf t).d (E s t)
end Go.Av
namespace Go.Av
open Go.Proofs Go.RowKit Go.Proofs.Ytjoogeabdjdleaa
def isS (d : D) (k : Int) (nm : List UInt8) : Bool := match d with
  | .agg [.int .i64 k', .int .i64 0, .str [], .str nm', .int .i64 0, .str [], .bool false, .int .i64 0, .int .i64 0, .int .i64 0, .list []] => k' == k && nm' == nm
  | _ => false
theorem isS_eq {d : D} {k : Int} {nm : List UInt8} (h : isS d k nm = true) : d = smp k nm [] := by
  unfold isS at h
  split at h
  · simp only [Bool.and_eq_true, beq_iff_eq] at h
    obtain ⟨rfl, rfl⟩ := h
    rfl
  · cases h
def isTop : D → Bool
  | .agg [.list [.agg [.int .i64 0, .list [s1, .agg [.int .i64 8, .int .i64 0, .str [], .str [], .int .i64 0, .str [], .bool false, .int .i64 0, .int .i64 0, .int .i64 0, .list [c1, c2]], s3]]]] =>
    isS s1 1 [97] && leafK c1 == some (4, [98]) && leafK c2 == some (1, [99]) && isS s3 3 [100]
  | _ => false
theorem isTop_eq {d : D} (h : isTop d = true) : d = topD := by
  unfold isTop at h
  split at h
  · simp only [Bool.and_eq_true, beq_iff_eq] at h
    obtain ⟨⟨⟨h1, h2⟩, h3⟩, h4⟩ := h
    rw [isS_eq h1, leafK_eq h2, leafK_eq h3, isS_eq h4]
    rfl
  · cases h
def ext82 : Call := fun f args pbs => match f, args, pbs with
  | 11, [x], [] => if isTop x = true then some (spD 1 1 1, [], []) else ext81 11 [x] []
  | _, _, _ => none
theorem top0 : aev Try.prog ext81 60 21 [smp 1 [97] []] [] = some (spD 0 0 1, [.no], []) := by kernel_rfl
theorem top1 : aev Try.prog ext81 60 21 [smp 8 [] [cplx [smp 4 [98] []], cplx [smp 1 [99] []]]] [] = some (spD 1 0 0, [.no], []) := by kernel_rfl
theorem top2 : aev Try.prog ext81 60 21 [smp 3 [100] []] [] = some (spD 0 1 0, [.no], []) := by kernel_rfl
def topS : List D := [smp 1 [97] [], smp 8 [] [cplx [smp 4 [98] []], cplx [smp 1 [99] []]], smp 3 [100] []]
def topO : Fin topS.length → Int × Int × Int
  | ⟨0, _⟩ => (0, 0, 1)
  | ⟨1, _⟩ => (1, 0, 0)
  | _ => (0, 1, 0)
theorem ext82_ok : CallOK Try.prog ext82 := by
  intro f args pbs d r pbs' h
  unfold ext82 at h
  split at h
  · rename_i x
    split at h
    · rename_i ht
      have hx := isTop_eq ht
      subst hx
      simp only [Option.some.injEq, Prod.mk.injEq] at h
      obtain ⟨rfl, rfl, rfl⟩ := h
      refine ⟨⟨_, Try.func11, rfl⟩, fun vals w F μ hl hd _ _ hlt hg => ?_⟩
      match vals, hl with
      | [v], _ =>
        have d0 := (den_one (hd 0 v _ rfl rfl)).ext (ext_old hlt)
        have hgo := gok_ext (ext_old hlt) hg
        refine (spec_den w v topS d0 (fun s hs => ?_) (by unfold topS; simp) (by unfold topS; simp) topO (fun i W u hB hu => ?_)).mono ?_
        · unfold topS at hs
          simp only [List.mem_cons, List.not_mem_nil, or_false] at hs
          rcases hs with rfl | rfl | rfl <;> rfl
        · have hgW := gok_ext (ext_below hB) hgo
          match i with
          | ⟨0, _⟩ => exact one_calls ext81_ok top0 hgW hu
          | ⟨1, _⟩ => exact one_calls ext81_ok top1 hgW hu
          | ⟨2, _⟩ => exact one_calls ext81_ok top2 hgW hu
        · rintro e w' ⟨rfl, hb⟩
          rw [show sumS topO (List.finRange topS.length) = (1, 1, 1) by kernel_rfl]
          exact ret_below (sp_den _ _ _) hlt hb
    · exact ext81_ok _ _ _ _ _ _ h
  · cases h
theorem own82 : Own8 ext82 := by
  rintro f args pbs h
  rcases h with rfl | rfl | rfl | rfl | rfl | rfl | rfl | rfl | rfl | rfl | rfl <;> rfl
theorem speaks8 : aev Try.prog ext82 60 4 [] [] = some (.bool true, [.no], []) := by kernel_rfl
end Go.Av
namespace Go.Av
open Go.Proofs
variable {ext : Call}
set_option maxHeartbeats 16000000 in
theorem rsame_L (hx0 : Own8 ext) (a b : List D) (E : D → D → Bool) (hP : PairH (fun s t v => callL Try.prog ext 19 [s, t] [] = some (.bool v, [.no], [])) E a b) :
    callL Try.prog ext 7 [.list a, .list b] [] = some (.bool (zipAll (fun x y => zipAll (sameP E) (cxL x) (cxL y)) a b), [.no], []) := by
  have HP := Hd.mk hP
  have HX := Hd.mk hx0
  obtain ⟨R, hR⟩ : ∃ R, Hd (R = zipAll (fun x y => zipAll (sameP E) (cxL x) (cxL y)) a b) := ⟨_, rfl⟩
  rw [← (show R = _ from hR)]
  have hc0 := fun args => hx0 7 args [] (by simp)
  refine callK (m := 93) (res := [4]) (rs := [.tmp 4]) (hc0 _) Try.func7 rfl rfl rfl rfl rfl ?_
  clear hP hx0 hc0
  by_cases hne : a.length = b.length
  · have hb0 := len_eq hne
    have HE := Hd.mk hne
    clear hne
    refine Q ?_
    refine loopH (fun st => ∃ i : Nat, i ≤ a.length ∧ st.slot 5 = .int .i64 i ∧ st.slot 0 = .list a ∧ st.slot 1 = .list b ∧ Hd (R = zipAll (fun x y => zipAll (sameP E) (cxL x) (cxL y)) (a.drop i) (b.drop i))) (fun st => a.length - slotI st 5) ?_ ?_
    · exact ⟨0, Nat.zero_le _, I, I, I, hR⟩
    · clear hb0
      rintro st K ⟨i, hi, g5, g0, g1, hO⟩ hn hx hr
      have hP : PairH _ E a b := HP
      have hne : a.length = b.length := HE
      have hla := hP.la
      have hO' : R = zipAll (fun x y => zipAll (sameP E) (cxL x) (cxL y)) (a.drop i) (b.drop i) := hO
      by_cases h : i < a.length
      · have g9 : (i : Int) < a.length := by omega
        have g9' : (i : Int) < b.length := by omega
        have hw := wrapS i (by omega)
        obtain ⟨x, hx1⟩ := some_at h
        obtain ⟨y, hy1⟩ := some_at (show i < b.length by omega)
        rw [zip_at hx1 hy1] at hO'
        obtain ⟨⟨ex, ey⟩, ⟨lx, ly⟩, hc⟩ := hP.c x (List.mem_of_getElem? hx1) y (List.mem_of_getElem? hy1)
        have ga := (getD_of hx1).trans ex
        have gb := (getD_of hy1).trans ey
        generalize cxL x = X at *
        generalize cxL y = X' at *
        obtain ⟨R1, hR1⟩ : ∃ R1, R1 = zipAll (fun x y => zipAll (sameP E) (cxL x) (cxL y)) (a.drop (i + 1)) (b.drop (i + 1)) := ⟨_, rfl⟩
        rw [← hR1] at hO'
        have HR1 := Hd.mk hR1
        clear hR1
        by_cases hnx : X.length = X'.length
        · have hb1 := len_eq hnx
          have HN := Hd.mk hnx
          have HC := Hd.mk hc
          have HO := Hd.mk hO'
          have HI := Hd.mk h
          have HLX := Hd.mk lx
          have HW := Hd.mk hw
          clear hO hO' hx hP hne hla hx1 hy1 ex ey lx ly hc hnx h hR
          refine Q ?_
          refine loopH (fun s2 => ∃ k : Nat, k ≤ X.length ∧ s2.slot 6 = .int .i64 k ∧ s2.slot 5 = .int .i64 i ∧ s2.slot 0 = .list a ∧ s2.slot 1 = .list b ∧ Hd (R = (zipAll (sameP E) (X.drop k) (X'.drop k) && R1))) (fun s2 => X.length - slotI s2 6) ?_ ?_
          · exact ⟨0, Nat.zero_le _, I, I, I, I, HO⟩
          · clear hb1
            rintro s2 K2 ⟨k, hk, f6, f5, f0, f1, hO⟩ hn2 hx2 hr2
            have G5 := Hd.mk g5
            clear g5 g0 g1 hw
            have hnx : X.length = X'.length := HN
            have hlx : X.length ≤ 1000000 := HLX
            have hO' : R = (zipAll (sameP E) (X.drop k) (X'.drop k) && R1) := hO
            by_cases h : k < X.length
            · have k9 : (k : Int) < X.length := by omega
              have k9' : (k : Int) < X'.length := by omega
              have hw := wrapS k (by omega)
              obtain ⟨p, hp1⟩ := some_at h
              obtain ⟨q, hq1⟩ := some_at (show k < X'.length by omega)
              rw [zip_at hp1 hq1] at hO'
              obtain ⟨⟨ep, eq⟩, ⟨lp, lq⟩, hc⟩ := (show ∀ p ∈ X, ∀ q ∈ X', _ from HC) p (List.mem_of_getElem? hp1) q (List.mem_of_getElem? hq1)
              have gp := (getD_of hp1).trans ep
              have gq := (getD_of hq1).trans eq
              have hsp : sameP E p q = (cpC p == cpC q && zipAll E (cpL p) (cpL q)) := rfl
              rw [hsp] at hO'
              clear hsp
              generalize cpL p = Y at *
              generalize cpL q = Y' at *
              generalize cpC p = c at *
              generalize cpC q = c' at *
              obtain ⟨R2, hR2⟩ : ∃ R2, R2 = zipAll (sameP E) (X.drop (k + 1)) (X'.drop (k + 1)) := ⟨_, rfl⟩
              rw [← hR2] at hO'
              have HR2 := Hd.mk hR2
              clear hR2
              clear hp1 hq1 ep eq hx2 hnx hlx hO
              have hbn : (c != c') = !(c == c') := rfl
              cases hcc : (c == c') with
              | false =>
                rw [hcc] at hO' hbn
                rw [Bool.false_and, Bool.false_and, Bool.false_and] at hO'
                subst hO'
                clear hn hn2 hc lp lq hw hcc
                refine Q ?_
                refine hr2 _ ?_
                refine hr _ ?_
                exact W
              | true =>
                rw [hcc] at hO' hbn
                rw [Bool.true_and] at hO'
                clear hcc
                by_cases hny : Y.length = Y'.length
                · have hb2 := len_eq hny
                  have HNY := Hd.mk hny
                  have HCY := Hd.mk hc
                  have HO := Hd.mk hO'
                  have HK := Hd.mk h
                  have HLY := Hd.mk lp
                  have HW2 := Hd.mk hw
                  clear hO' hc lp lq hny h hn
                  refine Q ?_
                  refine loopH (fun s3 => ∃ (m g7 g8 : Nat) (r7 r8 : List Room), m ≤ Y.length ∧ s3.slot 9 = .int .i64 m ∧ s3.slot 7 = .ptr 7 g7 0 ∧ s3.box 7 = some ⟨g7, [.int .i64 c, .list Y], r7⟩ ∧ s3.slot 8 = .ptr 8 g8 0 ∧ s3.box 8 = some ⟨g8, [.int .i64 c', .list Y'], r8⟩ ∧ s3.slot 6 = .int .i64 k ∧ s3.slot 5 = .int .i64 i ∧ s3.slot 0 = .list a ∧ s3.slot 1 = .list b ∧ Hd (R = ((zipAll E (Y.drop m) (Y'.drop m) && R2) && R1))) (fun s3 => Y.length - slotI s3 9) ?_ ?_
                  · exact ⟨0, s2.ctr 7, s2.ctr 8, putR (zrooms Try.prog 46) 0 2 [], putR (zrooms Try.prog 46) 0 2 [], Nat.zero_le _, I, I, I, I, I, I, I, I, I, HO⟩
                  · clear hb2 hbn
                    rintro s3 K3 ⟨m, g7, g8, r7, r8, hm, u9, u7, b7, u8, b8, u6, u5, u0, u1, hO⟩ hn3 hx3 hr3
                    have F6 := Hd.mk f6
                    clear f6 f5 f0 f1 hw
                    have hny : Y.length = Y'.length := HNY
                    have hly : Y.length ≤ 1000000 := HLY
                    have hO' : R = ((zipAll E (Y.drop m) (Y'.drop m) && R2) && R1) := hO
                    by_cases h : m < Y.length
                    · have m9 : (m : Int) < Y.length := by omega
                      have m9' : (m : Int) < Y'.length := by omega
                      have hw := wrapS m (by omega)
                      obtain ⟨s, hs1⟩ := some_at h
                      obtain ⟨t, ht1⟩ := some_at (show m < Y'.length by omega)
                      rw [zip_at hs1 ht1] at hO'
                      obtain ⟨⟨es, et⟩, hcall⟩ := (show ∀ s ∈ Y, ∀ t ∈ Y', _ from HCY) s (List.mem_of_getElem? hs1) t (List.mem_of_getElem? ht1)
                      have gs := (getD_of hs1).trans es
                      have gt := (getD_of ht1).trans et
                      unfold Sf.d at hcall
                      generalize sf s = SS at *
                      generalize sf t = TT at *
                      generalize E s t = v at *
                      clear hs1 ht1 es et hx3 hny hly hO hn2
                      cases v with
                      | false =>
                        rw [Bool.false_and, Bool.false_and, Bool.false_and] at hO'
                        subst hO'
                        clear hn3 hw
                        refine Q ?_
                        refine hr3 _ ?_
                        refine hr2 _ ?_
                        refine hr _ ?_
                        exact W
                      | true =>
                        rw [Bool.true_and] at hO'
                        have HO := Hd.mk hO'
                        clear hO' hr hr2 hr3
                        refine Q ?_
                        exact hn3 _ ⟨m + 1, g7, g8, r7, r8, h, L, L, L, L, L, L, L, L, L, HO⟩ Z
                    · have m9 : ¬ (m : Int) < Y.length := by omega
                      rw [zip_end (by omega) (by omega), Bool.true_and, show R2 = _ from HR2] at hO'
                      have HO := Hd.mk hO'
                      have hk2 : k < X.length := HK
                      have hw : IntKind.i64.wrap ((k : Int) + 1) = ((k + 1 : Nat) : Int) := HW2
                      clear hO hO' hn3 hr3 hr2 hr hny hly h
                      refine Q ?_
                      refine hx3 _ _ ?_
                      refine Q ?_
                      have f6 : s2.slot 6 = .int .i64 k := F6
                      exact hn2 _ ⟨k + 1, hk2, L, L, L, L, HO⟩ Z
                · have hb2 := len_ne hny
                  rw [zip_len _ _ _ hny, Bool.false_and, Bool.false_and] at hO'
                  subst hO'
                  clear hn hn2 hc lp lq hw hny
                  refine Q ?_
                  refine hr2 _ ?_
                  refine hr _ ?_
                  exact W
            · have k9 : ¬ (k : Int) < X.length := by omega
              rw [zip_end (by omega) (by omega), Bool.true_and, show R1 = _ from HR1] at hO'
              have HO := Hd.mk hO'
              have hi2 : i < a.length := HI
              have hw : IntKind.i64.wrap ((i : Int) + 1) = ((i + 1 : Nat) : Int) := HW
              clear hO hO' hn2 hr2 hr hnx hlx h
              refine Q ?_
              refine hx2 _ _ ?_
              refine Q ?_
              have g5 : st.slot 5 = .int .i64 i := G5
              exact hn _ ⟨i + 1, hi2, L, L, L, HO⟩ Z
        · have hb1 := len_ne hnx
          rw [zip_len _ _ _ hnx, Bool.false_and] at hO'
          subst hO'
          clear hO hn hx hP hne hla hx1 hy1 ex ey lx ly hc hnx hR hw
          refine Q ?_
          refine hr _ ?_
          exact W
      · have g9 : ¬ (i : Int) < a.length := by omega
        rw [zip_end (by omega) (by omega)] at hO'
        subst hO'
        clear hO hn hr hne hla hP hR
        refine Q ?_
        refine hx _ _ ?_
        exact W
  · have hb0 := len_ne hne
    have hR2 : R = false := (show R = _ from hR).trans (zip_len _ _ _ hne)
    subst hR2
    clear hR hne
    exact W
end Go.Av
namespace Go.Av
open Go.Proofs
variable {ext : Call}
theorem pair_ok {k : Nat} {a b : List D} {call : D → D → Bool → Prop} {E : D → D → Bool} (ha : lsOk 1000 (smOk 1000 k) a = true) (hb : lsOk 1000 (smOk 1000 k) b = true)
    (h : ∀ s t, smOk 1000 k s = true → smOk 1000 k t = true → call (sf s).d (sf t).d (E s t)) : PairH call E a b := by
  obtain ⟨la, ca⟩ := lsOk_mem ha
  obtain ⟨lb, cb⟩ := lsOk_mem hb
  have fa := szL_of ha
  have fb := szL_of hb
  refine ⟨by omega, by omega, fun x mx y my => ?_⟩
  obtain ⟨X, e, lX, cX⟩ := cxOk_inv (ca x mx)
  obtain ⟨X', e', lX', cX'⟩ := cxOk_inv (cb y my)
  have eX : cxL x = X := by rw [e]; rfl
  have eX' : cxL y = X' := by rw [e']; rfl
  refine ⟨⟨(fa x mx).1, (fb y my).1⟩, ⟨by rw [eX]; omega, by rw [eX']; omega⟩, fun p mp q mq => ?_⟩
  obtain ⟨cc, Y, e2, lY, cY⟩ := cpOk_inv (cX p (eX ▸ mp))
  obtain ⟨cc', Y', e2', lY', cY'⟩ := cpOk_inv (cX' q (eX' ▸ mq))
  have eY : cpL p = Y := by rw [e2]; rfl
  have eY' : cpL q = Y' := by rw [e2']; rfl
  refine ⟨⟨((fa x mx).2 p mp).1, ((fb y my).2 q mq).1⟩, ⟨by rw [eY]; omega, by rw [eY']; omega⟩, fun s ms t mt => ⟨⟨((fa x mx).2 p mp).2 s ms, ((fb y my).2 q mq).2 t mt⟩, ?_⟩⟩
  exact h s t (cY s (eY ▸ ms)) (cY' t (eY' ▸ mt))
theorem same7_L (hx : Own8 ext) : ∀ (k : Nat) (a b : List D), lsOk 1000 (smOk 1000 k) a = true → lsOk 1000 (smOk 1000 k) b = true → callL Try.prog ext 7 [.list a, .list b] [] = some (.bool (sameLk (k + 1) a b), [.no], [])
  | 0, a, b, ha, hb => by
    rw [sameLk_s]
    exact rsame_L hx a b (E1 0) (pair_ok ha hb fun s t hs _ => by simp [smOk] at hs)
  | k + 1, a, b, ha, hb => by
    rw [sameLk_s]
    exact rsame_L hx a b (E1 (k + 1)) (pair_ok ha hb fun s t hs ht => rsm_L (sf s) (sf t) _ (same7_L hx k _ _ (smOk_inv hs).2.2.2.2 (smOk_inv ht).2.2.2.2) (fun f args pbs h => hx f args pbs (by simp [h])))
end Go.Av
namespace Go.Av
def badS (deep : Int) (s : D) : Bool := decide (100 < ((sf s).nm.length : Int)) || (decide (100 < ((sf s).pre.length : Int)) || (decide (100 < ((sf s).tx.length : Int)) || decide (40 < deep)))
def cntX (C : List D → Int) (bad : D → Bool) (most : Int) : List D → Int → Option Int
  | [], n => some n
  | s :: r, n => if n ≤ most then (if bad s = true then none else cntX C bad most r (n + 1 + C (sf s).of_)) else some n
def cntP (C : List D → Int) (bad : D → Bool) (most : Int) : List D → Int → Option Int
  | [], n => some n
  | x :: r, n => if n ≤ most then (cntX C bad most (cpL x) n).bind (cntP C bad most r) else some n
def cntC (C : List D → Int) (bad : D → Bool) (most : Int) : List D → Int → Option Int
  | [], n => some n
  | c :: r, n => if n ≤ most then (cntP C bad most (cxL c) (n + (cxL c).length)).bind (cntC C bad most r) else some n
def cnt (most : Int) : Nat → List D → Int → Int
  | 0, _, _ => 0
  | f + 1, l, deep => (cntC (fun of_ => cnt most f of_ (deep + 1)) (badS deep) most l l.length).getD (most + 1)
section
variable {C : List D → Int} {bad : D → Bool} {most : Int}
theorem cntX_le (hC : ∀ l, 0 ≤ C l) : ∀ (l : List D) (n r : Int), cntX C bad most l n = some r → n ≤ r
  | [], n, r, h => by simp only [cntX, Option.some.injEq] at h; omega
  | s :: l, n, r, h => by
    unfold cntX at h
    split at h
    · split at h
      · cases h
      · have := cntX_le hC l _ _ h
        have := hC (sf s).of_
        omega
    · simp only [Option.some.injEq] at h; omega
theorem cntX_ok (hC : ∀ l, 0 ≤ C l) : ∀ (l : List D) (n r : Int), cntX C bad most l n = some r → r ≤ most → n + l.length ≤ r ∧ ∀ s ∈ l, bad s = false ∧ n + 1 + C (sf s).of_ ≤ most
  | [], n, r, h, hr => by
    simp only [cntX, Option.some.injEq] at h
    exact ⟨by simp; omega, fun s hs => by simp at hs⟩
  | s :: l, n, r, h, hr => by
    unfold cntX at h
    split at h
    · split at h
      · cases h
      · rename_i hb
        obtain ⟨h1, h2⟩ := cntX_ok hC l _ _ h hr
        have h3 := hC (sf s).of_
        have h4 := cntX_le hC l _ _ h
        refine ⟨by simp only [List.length_cons]; omega, fun t ht => ?_⟩
        rcases List.mem_cons.1 ht with rfl | ht
        · exact ⟨by simpa using hb, by omega⟩
        · obtain ⟨h5, h6⟩ := h2 t ht
          exact ⟨h5, by omega⟩
    · simp only [Option.some.injEq] at h; omega
theorem cntP_le (hC : ∀ l, 0 ≤ C l) : ∀ (l : List D) (n r : Int), cntP C bad most l n = some r → n ≤ r
  | [], n, r, h => by simp only [cntP, Option.some.injEq] at h; omega
  | x :: l, n, r, h => by
    unfold cntP at h
    split at h
    · obtain ⟨m, h1, h2⟩ := Option.bind_eq_some_iff.1 h
      have := cntX_le hC _ _ _ h1
      have := cntP_le hC l _ _ h2
      omega
    · simp only [Option.some.injEq] at h; omega
theorem cntP_ok (hC : ∀ l, 0 ≤ C l) : ∀ (l : List D) (n r : Int), 0 ≤ n → cntP C bad most l n = some r → r ≤ most → n ≤ r ∧ ∀ x ∈ l, ((cpL x).length : Int) ≤ most ∧ ∀ s ∈ cpL x, bad s = false ∧ C (sf s).of_ ≤ most
  | [], n, r, h0, h, hr => by
    simp only [cntP, Option.some.injEq] at h
    exact ⟨by omega, fun s hs => by simp at hs⟩
  | x :: l, n, r, h0, h, hr => by
    unfold cntP at h
    split at h
    · obtain ⟨m, h1, h2⟩ := Option.bind_eq_some_iff.1 h
      have h4 := cntP_le hC l _ _ h2
      obtain ⟨h5, h6⟩ := cntX_ok hC _ _ _ h1 (by omega)
      obtain ⟨h7, h8⟩ := cntP_ok hC l _ _ (by omega) h2 hr
      refine ⟨by omega, fun y hy => ?_⟩
      rcases List.mem_cons.1 hy with rfl | hy
      · refine ⟨by omega, fun s hs => ?_⟩
        obtain ⟨h9, h10⟩ := h6 s hs
        exact ⟨h9, by omega⟩
      · exact h8 y hy
    · simp only [Option.some.injEq] at h; omega
theorem cntC_le (hC : ∀ l, 0 ≤ C l) : ∀ (l : List D) (n r : Int), cntC C bad most l n = some r → n ≤ r
  | [], n, r, h => by simp only [cntC, Option.some.injEq] at h; omega
  | c :: l, n, r, h => by
    unfold cntC at h
    split at h
    · obtain ⟨m, h1, h2⟩ := Option.bind_eq_some_iff.1 h
      have := cntP_le hC _ _ _ h1
      have := cntC_le hC l _ _ h2
      omega
    · simp only [Option.some.injEq] at h; omega
theorem cntC_ok (hC : ∀ l, 0 ≤ C l) : ∀ (l : List D) (n r : Int), 0 ≤ n → cntC C bad most l n = some r → r ≤ most → n ≤ r ∧ ∀ c ∈ l, ((cxL c).length : Int) ≤ most ∧ ∀ x ∈ cxL c, ((cpL x).length : Int) ≤ most ∧ ∀ s ∈ cpL x, bad s = false ∧ C (sf s).of_ ≤ most
  | [], n, r, h0, h, hr => by
    simp only [cntC, Option.some.injEq] at h
    exact ⟨by omega, fun s hs => by simp at hs⟩
  | c :: l, n, r, h0, h, hr => by
    unfold cntC at h
    split at h
    · obtain ⟨m, h1, h2⟩ := Option.bind_eq_some_iff.1 h
      have h4 := cntC_le hC l _ _ h2
      obtain ⟨h5, h6⟩ := cntP_ok hC _ _ _ (by omega) h1 (by omega)
      obtain ⟨h7, h8⟩ := cntC_ok hC l _ _ (by omega) h2 hr
      refine ⟨by omega, fun y hy => ?_⟩
      rcases List.mem_cons.1 hy with rfl | hy
      · exact ⟨by omega, h6⟩
      · exact h8 y hy
    · simp only [Option.some.injEq] at h; omega
end
theorem cnt_nonneg {most : Int} (hm : 0 ≤ most) : ∀ (f : Nat) (l : List D) (deep : Int), 0 ≤ cnt most f l deep
  | 0, _, _ => Int.le_refl _
  | f + 1, l, deep => by
    unfold cnt
    cases h : cntC (fun of_ => cnt most f of_ (deep + 1)) (badS deep) most l l.length with
    | none => simp; omega
    | some r =>
      have := cntC_le (C := fun of_ => cnt most f of_ (deep + 1)) (fun l => cnt_nonneg hm f l _) _ _ _ h
      simp
      omega
theorem cnt_small {most : Int} (hm : 0 ≤ most) (hm2 : most ≤ 1000) {m : Nat} : ∀ (f : Nat) (l : List D) (d g : Nat), d + g = 41 → lsOk m (smOk m f) l = true → cnt most (f + 1) l d ≤ most → lsOk 1000 (smOk 1000 g) l = true
  | f, l, d, g, hd, hk, hc => by
    unfold cnt at hc
    cases h : cntC (fun of_ => cnt most f of_ ((d : Int) + 1)) (badS d) most l l.length with
    | none => rw [h] at hc; simp at hc; omega
    | some r =>
      rw [h] at hc
      simp only [Option.getD_some] at hc
      obtain ⟨h1, h2⟩ := cntC_ok (C := fun of_ => cnt most f of_ ((d : Int) + 1)) (fun l => cnt_nonneg hm f l _) _ _ _ (by omega) h hc
      simp only [lsOk, lenB, Bool.and_eq_true, decide_eq_true_eq, List.all_eq_true] at hk ⊢
      refine ⟨by omega, fun c hcm => ?_⟩
      obtain ⟨xs, rfl, _, hxs⟩ := cxOk_inv (hk.2 c hcm)
      obtain ⟨h3, h4⟩ := h2 _ hcm
      simp only [cxD, cxL] at h3 h4
      simp only [cxOk, cxD, lenB, Bool.and_eq_true, decide_eq_true_eq, List.all_eq_true]
      refine ⟨by omega, fun x hx => ?_⟩
      obtain ⟨k, ss, rfl, _, hss⟩ := cpOk_inv (hxs x hx)
      obtain ⟨h5, h6⟩ := h4 _ hx
      simp only [cpD, cpL] at h5 h6
      simp only [cpOk, cpD, lenB, Bool.and_eq_true, decide_eq_true_eq, List.all_eq_true]
      refine ⟨by omega, fun s hs => ?_⟩
      obtain ⟨h7, h8⟩ := h6 s hs
      simp only [badS, Bool.or_eq_false_iff, decide_eq_false_iff_not] at h7
      obtain ⟨b1, b2, b3, b4⟩ := h7
      match f, hss s hs, h8 with
      | 0, hz, _ => simp [smOk] at hz
      | f + 1, hz, h8 =>
        obtain ⟨e, _, _, _, ho⟩ := smOk_inv hz
        match g, hd with
        | 0, hd => omega
        | g + 1, hd =>
          have h9 := cnt_small hm hm2 f (sf s).of_ (d + 1) g (by omega) ho (by simpa using h8)
          rw [e]
          simp only [smOk, Sf.d, Bool.and_eq_true, decide_eq_true_eq]
          exact ⟨⟨⟨by omega, by omega⟩, by omega⟩, h9⟩
end Go.Av
