/- The evaluator, in one text: over any program; no conditions but those that each law names. -/
import Derived.Test.YtaghfmgeccapbaaGreatDoorAvb
import Derived.Test.YtaghfmgeccapbaaGreatDoorProg
import Derived.KernelRfl
import GoSem.PinnedTables
import Derived.WalkKit
import Derived.WalkSpells
import Derived.WalkLawsBesides
import Derived.Lib.Hide
import Derived.Test.YtaghfmgeccapbaaGreatDoorChecked
import Derived.Deep.RegionLaw
import Derived.Deep.QuietTactic
import Derived.BigQuiet
import Derived.Lib.SliceRun
import Derived.Lib.SlicesDelete
import Derived.Lib.Walk
import Derived.Laws.IdiomCopy
import Derived.Lib.ReflectliteSwap
set_option linter.unusedSimpArgs false
set_option linter.unusedVariables false
set_option linter.unusedSectionVars false
namespace Go.Av
open Go.Proofs
def firstN (c : Nat) : Nat := Go.Pinned.utf8FirstZ.getD c 0
def firstD : List D := (List.range 256).map fun c => .int .u8 (firstN c : Nat)
def accN : List Nat := [128, 191, 160, 191, 128, 159, 144, 191, 128, 143, 0, 0, 0, 0, 0, 0, 0, 0, 0, 0, 0, 0, 0, 0, 0, 0, 0, 0, 0, 0, 0, 0]
def accD : List D := accN.map fun n => .int .u8 (n : Nat)
def stS : List (List UInt8) := [[104, 111, 118, 101, 114], [97, 99, 116, 105, 118, 101], [102, 111, 99, 117, 115], [102, 111, 99, 117, 115, 45, 118, 105, 115, 105, 98, 108, 101], [118, 105, 115, 105, 116, 101, 100], [108, 105, 110, 107], [99, 104, 101, 99, 107, 101, 100], [100, 105, 115, 97, 98, 108, 101, 100], [101, 110, 97, 98, 108, 101, 100], [116, 97, 114, 103, 101, 116]]
def stD : List D := stS.map .str
def frzOps : List Oper → List Tmp
  | [] => []
  | o :: l => (match o.op with
    | .makeFunc _ _ c => c.toList.filterMap (fun | .tmp t => some t | _ => none)
    | _ => []) ++ frzOps l
class Rk where
  b : Bool
instance g12 [Rk] : Gs where
  gl := fun g => if g = 1 then .fix (.agg stD) 0 else if g = 2 then .fix (.agg firstD) 0 else if g = 3 then .fix (.agg accD) 0 else .bad
  rowAt := fun o => match o.op with
    | .makeSlice t (.tmp l) _ => t == 22 && l == 7 && o.dst == some 8
    | .call c => (match c.callee, c.argTypes.toList with
      | .builtin .append, t :: _ => t == 22 && (o.dst == some 58 || o.dst == some 101)
      | _, _ => false)
    | _ => false
  frzAt := fun l => match l with
    | o :: _ => (match o.op with
      | .move (.tmp n) => if (n == 3 && o.dst == some 22) = true then [3] else if (n == 6 && o.dst == some 81) = true then [11] else if (n == 6 && o.dst == some 124) = true then [13] else frzOps l
      | _ => frzOps l)
    | [] => []
  barC := fun o => match o.op with
    | .call c => (match c.callee with | .value (.func f) => f == 41 | _ => false)
    | _ => false
  noEat := fun t => t == 3
  gv := if Rk.b = true then [(0, .iface 119 (.agg #[.pointer (some ⟨4, 36, none⟩)]))] else []
theorem mx12 : Tryz.prog.follows .mixedOrders = true := by kernel_rfl
theorem nm12 : (Tryz.prog.funcs.all fun fn => !(fn.name == "runtime.NumGoroutine")) = true := by kernel_rfl
theorem fineS : Fine Tryz.prog := by
  refine ⟨mx12, fun f fn hf => ?_⟩
  have h := Array.all_eq_true_iff_forall_mem.1 nm12 fn (Array.mem_of_getElem? hf)
  simpa using h
end Go.Av
namespace Go.Proofs.YtaghfmgeccapbaaGreatDoor
open Go.RowKit

def Bk (w : World) (g : Nat) (t : TypeId) (cs : Array Value) : Prop := w.heap[g]? = some (.cells cs t (0, 0))

def Sl (w : World) (B : Nat) (a : Option Addr) (xs : List Value) : Prop :=
  xs ≠ [] → ∃ b off, a = some ⟨b, off, none⟩ ∧ b < B ∧ ∀ i (h : i < xs.length), w.cell? ⟨b, off + i, none⟩ = some xs[i]

section
variable {w w' : World} {g : Nat} {t : TypeId} {cs : Array Value}

theorem Bk.lt (h : Bk w g t cs) : g < w.heap.size := by
  apply Classical.byContradiction
  intro hn
  have : w.heap[g]? = none := Array.getElem?_eq_none (by omega)
  unfold Bk at h
  rw [this] at h
  cases h
theorem Bk.cell (h : Bk w g t cs) (i : Nat) : w.cell? ⟨g, i, none⟩ = cs[i]? := cell_of_row w g i cs t (0, 0) h
theorem Bk.free (h : Bk w g t cs) (i : Nat) : w.frozen? ⟨g, i, none⟩ = false := frozen_of_row w g i cs t h
theorem Bk.new (w : World) (t : TypeId) (cs : Array Value) : Bk (w.alloc (.cells cs t)) w.heap.size t cs := heap_alloc_new w _
theorem Bk.put (h : Bk w g t cs) (i : Nat) (u : Value) : Bk (w.setCell ⟨g, i, none⟩ u) g t (cs.setIfInBounds i u) := heap_setCell_same w g i cs t u h
theorem Bk.below {B : Nat} (h : Bk w g t cs) (hb : Below B w w') (hg : g < B) : Bk w' g t cs := (hb.block g hg).trans h
theorem Bk.grown {row : Option Nat} (h : Bk w g t cs) (hb : w.grownBy w' row) (hg : some g ≠ row) : Bk w' g t cs := (hb.block g h.lt hg).trans h
theorem Bk.drew (h : Bk w g t cs) : Bk w.drew g t cs := h
theorem Bk.drewN (h : Bk w g t cs) (n : Nat) : Bk (w.drewN n) g t cs := h
theorem Bk.alloc (h : Bk w g t cs) (o : Obj) : Bk (w.alloc o) g t cs := (Below.heap_alloc w o g h.lt).trans h
theorem Bk.other (h : Bk w g t cs) {p : Addr} (hp : g ≠ p.block) (u : Value) : Bk (w.setCell p u) g t cs := (Below.heap_setCell w p u g hp).trans h

theorem grown_put {a : World} {r : Option Nat} (h : a.grownBy w r) {p : Addr} (hp : r = some p.block) (u : Value) : a.grownBy (w.setCell p u) r :=
  ⟨h.os, h.tape, h.output, by simpa using h.size, fun k hk hne => (Below.heap_setCell w p u k (fun e => hne (by rw [hp, e]))).trans (h.block k hk hne)⟩
theorem below_drewN {B : Nat} {a : World} (h : Below B a w) (n : Nat) : Below B a (w.drewN n) := ⟨h.os, h.tape, h.output, h.size, h.block⟩
theorem below_of_grown {r : Option Nat} (h : w.grownBy w' r) {B : Nat} (hB : B ≤ w.heap.size) (hr : ∀ k, r = some k → B ≤ k) : Below B w w' :=
  (Below.refl B w).grown h hB hr

theorem below_cells {B : Nat} (hb : Below B w w') : (∀ b o, b < B → w'.cell? ⟨b, o, none⟩ = w.cell? ⟨b, o, none⟩) ∧ (∀ b o, b < B → w'.frozen? ⟨b, o, none⟩ = w.frozen? ⟨b, o, none⟩) :=
  ⟨fun b o h => hb.cell (p := ⟨b, o, none⟩) h, fun b o h => hb.frozen (p := ⟨b, o, none⟩) h⟩
end

section
variable {w w' : World} {B B' : Nat} {a : Option Addr} {xs : List Value}

theorem Sl.nil : Sl w B a [] := fun h => absurd rfl h
theorem Sl.keep (h : Sl w B a xs) (hk : ∀ b o, b < B → w'.cell? ⟨b, o, none⟩ = w.cell? ⟨b, o, none⟩) : Sl w' B a xs := fun hne => by
  obtain ⟨b, off, e, hb, hc⟩ := h hne
  exact ⟨b, off, e, hb, fun i hi => (hk b _ hb).trans (hc i hi)⟩
theorem Sl.mono (h : Sl w B a xs) (hB : B ≤ B') : Sl w B' a xs := fun hne => by
  obtain ⟨b, off, e, hb, hc⟩ := h hne
  exact ⟨b, off, e, Nat.lt_of_lt_of_le hb hB, hc⟩
theorem Sl.below (h : Sl w B a xs) (hb : Below B w w') : Sl w' B a xs := h.keep (below_cells hb).1
theorem Sl.drew (h : Sl w B a xs) : Sl w.drew B a xs := h
theorem Sl.drewN (h : Sl w B a xs) (n : Nat) : Sl (w.drewN n) B a xs := h
theorem Sl.alloc (h : Sl w B a xs) (hB : B ≤ w.heap.size) (o : Obj) : Sl (w.alloc o) B a xs := h.below ((Below.refl B w).alloc hB o)
theorem Sl.open_ (h : Sl w B a xs) {k : Nat} (hk : k < xs.length) : ∃ b off, a = some ⟨b, off, none⟩ ∧ b < B ∧ ∀ i (h : i < xs.length), w.cell? ⟨b, off + i, none⟩ = some xs[i] :=
  h (by intro e; subst e; simp at hk)
theorem Sl.of_own {base size n c : Nat} {e : TypeId} (h : w.ownsRow base e size (.slice a n c) n xs) : Sl w w.heap.size a xs := fun hne => by
  rcases h.2 with ⟨hv, hn⟩ | ⟨g, cap, cur, hv, _, hg, _, _, hsz, htake⟩
  · subst hn
    have := h.1
    simp at this
    exact absurd this hne
  · have ha : a = some ⟨g, 0, none⟩ := by injection hv
    subst ha
    refine ⟨g, 0, rfl, Bk.lt hg, fun i hi => ?_⟩
    rw [Nat.zero_add, Bk.cell hg i]
    have hx : xs[i] = (cur.toList.take (n * size))[i]'(by rw [htake]; exact hi) := by simp only [htake]
    rw [hx, List.getElem_take]
    simp
theorem Sl.lit (w : World) (t : TypeId) (cs : Array Value) : Sl (w.alloc (.cells cs t)) (w.heap.size + 1) (some ⟨w.heap.size, 0, none⟩) cs.toList := fun _ =>
  ⟨w.heap.size, 0, rfl, Nat.lt_succ_self _, fun i hi => by rw [Nat.zero_add, (Bk.new w t cs).cell i]; simp at hi; simp [hi]⟩
theorem Sl.cut (h : Sl w B a xs) {k cap n : Nat} (hk : k ≤ n) (hn : xs.length = n) (hc : n ≤ cap) : Sl w B (if cap = k then a else a.map (·.add k)) (xs.drop k) := fun hne => by
  have hlt : k < n := by
    apply Classical.byContradiction
    intro hge
    exact hne (List.drop_eq_nil_of_le (by omega))
  obtain ⟨b, off, rfl, hb, hcell⟩ := h.open_ (k := k) (by omega)
  rw [if_neg (by omega)]
  refine ⟨b, off + k, ?_, hb, fun i hi => ?_⟩
  · simp [Addr.add]
  · rw [Nat.add_assoc, List.getElem_drop]
    exact hcell (k + i) (by simp at hi; omega)
theorem Sl.take (h : Sl w B a xs) (k : Nat) : Sl w B a (xs.take k) := fun hne => by
  have hne' : xs ≠ [] := by intro e; subst e; simp at hne
  obtain ⟨b, off, e, hb, hc⟩ := h hne'
  refine ⟨b, off, e, hb, fun i hi => ?_⟩
  rw [List.getElem_take]
  exact hc i (by simp at hi; omega)
end

def Qt (w w' : World) : Prop := ∃ n, w' = w.drewN n
section
variable {w w' : World}
theorem Qt.refl (w : World) : Qt w w := ⟨0, rfl⟩
theorem Qt.drewN (h : Qt w w') (n : Nat) : Qt w (w'.drewN n) := by
  obtain ⟨m, rfl⟩ := h
  exact ⟨m + n, by simp [World.drewN, Nat.add_assoc]⟩
theorem Qt.drew (h : Qt w w') : Qt w w'.drew := by
  obtain ⟨m, rfl⟩ := h
  exact ⟨m + 1, rfl⟩
theorem Qt.cell (h : Qt w w') (a : Addr) : w'.cell? a = w.cell? a := by
  obtain ⟨m, rfl⟩ := h
  rfl
theorem Qt.frozen (h : Qt w w') (a : Addr) : w'.frozen? a = w.frozen? a := by
  obtain ⟨m, rfl⟩ := h
  rfl
theorem Qt.heap (h : Qt w w') : w'.heap = w.heap := by
  obtain ⟨m, rfl⟩ := h
  rfl
theorem Qt.below (h : Qt w w') {B : Nat} : Below B w w' := by
  obtain ⟨m, rfl⟩ := h
  exact below_drewN (Below.refl B w) m
theorem Qt.grown (h : Qt w w') : w.grownBy w' none := by
  obtain ⟨m, rfl⟩ := h
  exact ⟨rfl, rfl, rfl, Nat.le_refl _, fun _ _ _ => rfl⟩
theorem Qt.trans {w'' : World} (h : Qt w w') (h' : Qt w' w'') : Qt w w'' := by
  obtain ⟨m, rfl⟩ := h'
  exact h.drewN m
end

theorem addr_add (b off j : Nat) : (⟨b, off, none⟩ : Addr).add j = ⟨b, off + j, none⟩ := by
  by_cases h : j = 0
  · subst h; simp [Addr.add]
  · simp [Addr.add, h]
theorem Sl.int {w : World} {B : Nat} {a : Option Addr} {k : IntKind} {zs : List Int} (h : Sl w B a (zs.map (Value.int k))) {i : Nat} (hi : i < zs.length) :
    ∃ b off, a = some ⟨b, off, none⟩ ∧ b < B ∧ ∀ j, j < zs.length → w.cell? ⟨b, off + j, none⟩ = some (.int k (zs.getD j 0)) := by
  obtain ⟨b, off, e, hb, hc⟩ := h.open_ (k := i) (by simpa using hi)
  refine ⟨b, off, e, hb, fun j hj => ?_⟩
  rw [hc j (by simpa using hj)]
  simp [hj]
theorem ret_int {k : IntKind} {a b : Int} (h : a = b) : Ending.returned (.int k a) = .returned (.int k b) := by rw [h]
theorem ret_bool {a b : Bool} (h : a = b) : Ending.returned (.bool a) = .returned (.bool b) := by rw [h]
end Go.Proofs.YtaghfmgeccapbaaGreatDoor
namespace Go.Proofs.YtaghfmgeccapbaaGreatDoor
open Go.RowKit

def EI (P : Program) (t e : TypeId) (size bytes : Nat) : Prop :=
  ∃ i z, P.underlying t = some (.slice e) ∧ P.info? e = some i ∧ i.zero = some z ∧ i.size = size ∧ i.bytes = bytes ∧ z.cells.size = size ∧ 0 < size

theorem EI.mk {P : Program} {t e : TypeId} {z : Value} {size bytes : Nat} (ht : P.underlying t = some (.slice e)) (h : (P.info? e).map (fun i => (i.zero, i.size, i.bytes)) = some (some z, size, bytes)) (hz : z.cells.size = size) (hs : 0 < size) : EI P t e size bytes := by
  obtain ⟨i, hi, h0, h1, h2⟩ := info_parts h
  exact ⟨i, z, ht, hi, h0, h1, h2, hz, hs⟩

section
variable {P : Program} {ops : Array Oper} {rest : List Oper} {o : Oper} {a : Act} {Q : Exit → Act → World → Prop}

theorem own_below {w w' : World} {base size n : Nat} {e : TypeId} {v : Value} {xs : List Value} (hown : w.ownsRow base e size v n xs) (hg : w.grownBy w' v.ownBlock) (hbase : base ≤ w.heap.size) : Below base w w' :=
  below_of_grown hg hbase fun k hk => (hown.lt k hk).1

def OwnR (w : World) (base : Nat) (e : TypeId) (size : Nat) (v : Value) (n : Nat) (xs : List Value) : Prop :=
  (n = 0 ∧ xs = [] ∧ ∃ A, v = .slice A 0 0) ∨ w.ownsRow base e size v n xs
theorem grown_any {w w' : World} (h : w.grownBy w' none) (row : Option Nat) : w.grownBy w' row := ⟨h.os, h.tape, h.output, h.size, fun k hk _ => h.block k hk (by simp)⟩

theorem run_appR (w : World) {t ty e : TypeId} {size bytes base n : Nat} {v : Value} {xs : List Value} (E : EI P t e size bytes) (hown : OwnR w base e size v n xs)
    (B : Nat) (A : Option Addr) (m c : Nat) (news : List Value) (hr : Sl w B A news) (hl : news.length = m * size) (h1 : ∀ u ∈ news, u.oneCell' = true)
    (h63 : n + m ≤ maxLen) (hbytes : (n + m) * bytes ≤ 140737488355328) (hbase : base ≤ w.heap.size) :
    ∃ v' w', (Builtin.append_ #[t, t] ty #[v, .slice A m c]).run P w = .ok v' w' ∧ OwnR w' base e size v' (n + m) (xs ++ news) ∧ w.grownBy w' v.ownBlock ∧ Below base w w' := by
  have E0 := E
  obtain ⟨i, z, ht, hi, hz, hsz, hby, hzs, hpos⟩ := E
  have hcells : ∀ ad, A = some ad → ∀ j u, news[j]? = some u → w.cell? (ad.add j) = some u := by
    intro ad had j u hj
    subst had
    have hjl : j < news.length := by
      apply Classical.byContradiction
      intro hge
      rw [List.getElem?_eq_none (by omega)] at hj
      cases hj
    obtain ⟨b, off, h0, _, hc⟩ := hr.open_ (k := j) hjl
    injection h0 with h0
    subst h0
    rw [List.getElem?_eq_getElem hjl] at hj
    injection hj with hj
    subst hj
    rw [addr_add]
    exact hc j hjl
  have hnil : A = none → news = [] := by
    intro hA
    apply Classical.byContradiction
    intro hne
    obtain ⟨b, off, h0, _⟩ := hr hne
    rw [hA] at h0
    cases h0
  have hm0 : news = [] → m = 0 := by
    intro h
    rw [h] at hl
    rcases Nat.eq_zero_or_pos m with h0 | h0
    · exact h0
    · have := Nat.mul_pos h0 hpos
      simp at hl
      omega
  by_cases hn : news = []
  · have hm := hm0 hn
    subst hn hm
    refine ⟨v, w, ?_, by simpa using hown, World.grownBy.refl _ _, Below.refl _ _⟩
    have hc0 : ∀ ad : Addr, (loadCells ad 0).run P w = .ok #[] w := fun ad => by simp [loadCells, loadCellsFrom]
    rcases hown with ⟨_, _, A0, rfl⟩ | ⟨_, ⟨rfl, _⟩ | ⟨g, cap, cur, rfl, _, _, hnc, _⟩⟩
    · cases A <;> cases A0 <;> simp [Builtin.append_, run_underlying ht, sizeOf, typeInfo, hi, Builtin.lenOf, Builtin.firstCells, storeCells, hc0]
    · cases A <;> simp [Builtin.append_, run_underlying ht, sizeOf, typeInfo, hi, Builtin.lenOf, Builtin.firstCells, hc0]
    · cases A <;> simp [Builtin.append_, run_underlying ht, sizeOf, typeInfo, hi, Builtin.lenOf, Builtin.firstCells, hnc, storeCells, hc0]
  · obtain ⟨ad, rfl⟩ : ∃ ad, A = some ad := by
      cases A with
      | none => exact absurd (hnil rfl) hn
      | some ad => exact ⟨ad, rfl⟩
    have hmp : 0 < m := by
      rcases Nat.eq_zero_or_pos m with h0 | h0
      · subst h0
        simp at hl
        exact absurd hl hn
      · exact h0
    rcases hown with ⟨rfl, rfl, A0, rfl⟩ | hown
    · have hb0 : m * bytes ≤ 140737488355328 := by simpa using hbytes
      have hm63 : m ≤ 9223372036854775807 := by simpa [maxLen] using h63
      obtain ⟨v', w', hrun, ho, hg, _⟩ := run_append_own (P := P) w base t ty e i z size bytes ht hi hz hsz hby hzs hpos (.slice none 0 0) 0 [] (World.ownsRow_nil w base e size) ad m c news hl (hcells ad rfl) h1 h63 hbytes hbase
      refine ⟨v', w', ?_, .inr ho, grown_any hg _, below_of_grown hg hbase (fun k hk => by cases hk)⟩
      cases A0 with
      | none => exact hrun
      | some s0 =>
        subst hsz hby
        have r1 := run_append_nil (P := P) w t ty e i z ht hi hz ad m c news hl (hcells ad rfl) hmp (by omega) (by omega)
        have r2 := run_append_grow (P := P) w t ty e i z ht hi hz s0 0 0 [] (by simp) (fun j u hj => by simp at hj) ad m c news hl (hcells ad rfl) (by omega) (by omega) (growslice_fits (by omega) hbytes)
        rw [hrun] at r1
        rw [r2]
        simp only [Nat.zero_add, Array.empty_append]
        exact r1.symm
    · obtain ⟨v', w', hrun, ho, hg, _⟩ := run_append_own (P := P) w base t ty e i z size bytes ht hi hz hsz hby hzs hpos v n xs hown ad m c news hl (hcells ad rfl) h1 h63 hbytes hbase
      exact ⟨v', w', hrun, .inr ho, hg, own_below hown hg hbase⟩

theorem wp_appR {K : Act → World → Prop} (w0 : World) (s x : Operand) (t : TypeId) (ho : o.op = .call { callee := .builtin .append, args := #[s, x], argTypes := #[t, t] })
    {e : TypeId} {size bytes : Nat} (E : EI P t e size bytes) (base : Nat) (v : Value) (n : Nat) (xs : List Value) (hs : a.eval s = v) (hown : OwnR w0 base e size v n xs)
    (B : Nat) (A : Option Addr) (m c : Nat) (news : List Value) (hx : a.eval x = .slice A m c) (hr : Sl w0 B A news) (hl : news.length = m * size) (h1 : ∀ u ∈ news, u.oneCell' = true)
    (h63 : n + m ≤ maxLen) (hbytes : (n + m) * bytes ≤ 140737488355328) (hbase : base ≤ w0.heap.size)
    (h : ∀ v' w', OwnR w' base e size v' (n + m) (xs ++ news) → w0.grownBy w' v.ownBlock → Below base w0 w' → K (a.put o.dst v') w') : o.wp P a w0 K Q := by
  obtain ⟨v', w', hrun, h2, h3, h4⟩ := run_appR (ty := o.type) w0 E hown B A m c news hr hl h1 h63 hbytes hbase
  unfold Oper.wp execOp
  simp only [ho, resolve, invoke, builtin, Sem.run_bind, Sem.run_pure, Result.andThen_ok, List.map_toArray, List.map_cons, List.map_nil, hs, hx, hrun]
  exact h v' w' h2 h3 h4
theorem app_slR (w0 : World) (hgd : o.guard = none) (s x : Operand) (t : TypeId) (ho : o.op = .call { callee := .builtin .append, args := #[s, x], argTypes := #[t, t] })
    {e : TypeId} {size bytes : Nat} (E : EI P t e size bytes) (base : Nat) (v : Value) (n : Nat) (xs : List Value) (hs : a.eval s = v) (hown : OwnR w0 base e size v n xs)
    (B : Nat) (A : Option Addr) (m c : Nat) (news : List Value) (hx : a.eval x = .slice A m c) (hr : Sl w0 B A news) (hl : news.length = m * size) (h1 : ∀ u ∈ news, u.oneCell' = true)
    (h63 : n + m ≤ maxLen) (hbytes : (n + m) * bytes ≤ 140737488355328) (hbase : base ≤ w0.heap.size)
    (h : ∀ v' w', OwnR w' base e size v' (n + m) (xs ++ news) → w0.grownBy w' v.ownBlock → Below base w0 w' → wpList P ops Q rest (a.put o.dst v') w') :
    wpList P ops Q (o :: rest) a w0 :=
  wpList_plain hgd fun _ hK => wp_appR w0 s x t ho E base v n xs hs hown B A m c news hx hr hl h1 h63 hbytes hbase fun v' w' h2 h3 h4 => hK _ _ (h v' w' h2 h3 h4)
theorem make_full (w0 : World) (hgd : o.guard = none) (l c : Operand) (t : TypeId) (ho : o.op = Op.makeSlice t l c) {e : TypeId} {size bytes : Nat} (z : Value) (E : EI P t e size bytes) (hz0 : (P.info? e).bind (·.zero) = some z) (base : Nat)
    (kl kc : IntKind) (n : Nat) (hl : a.eval l = .int kl (n : Int)) (hc : a.eval c = .int kc (n : Int)) (b2 : bytes * n ≤ 281474976710656) (b3 : n ≤ maxLen) (b4 : base ≤ w0.heap.size)
    (h : ∀ w', w'.ownsRow base e size (.slice (some ⟨w0.heap.size, 0, none⟩) n n) n (madeCells z.cells (n * size)).toList → w0.grownBy w' none → Below w0.heap.size w0 w' → wpList P ops Q rest (a.put o.dst (.slice (some ⟨w0.heap.size, 0, none⟩) n n)) w') :
    wpList P ops Q (o :: rest) a w0 := by
  obtain ⟨i, z', ht, hi, hz, hsz, hby, hzs, hpos⟩ := E
  subst hby
  have : z' = z := by simpa [hi, hz] using hz0
  subst this
  refine wpList_make_full w0 hgd l c t ho base e i z' size ht hi hz hsz kl kc _ _ n hl hc rfl rfl b2 b3 b4 ?_
  intro w' h1 h2
  exact h w' h1 h2 (below_of_grown h2 (Nat.le_refl _) (fun k hk => by cases hk))
end
end Go.Proofs.YtaghfmgeccapbaaGreatDoor
namespace Go.Proofs.YtaghfmgeccapbaaGreatDoor
open Go.RowKit

def lenV : Value → Nat | .slice _ n _ => n | _ => 0

def OwnL (w : World) (base : Nat) (e : TypeId) (k : IntKind) (v : Value) (l : List Int) : Prop := OwnR w base e 1 v l.length (l.map (Value.int k))

section
variable {w w' : World} {base : Nat} {e : TypeId} {size n : Nat} {v : Value} {xs : List Value}
theorem OwnR.form (h : OwnR w base e size v n xs) : ∃ a c, v = .slice a n c ∧ n ≤ c ∧ xs.length = n * size ∧ Sl w w.heap.size a xs := by
  rcases h with ⟨rfl, rfl, A, rfl⟩ | h
  · exact ⟨A, 0, rfl, Nat.le_refl _, by simp, Sl.nil⟩
  · have h' := h
    rcases h.2 with ⟨hv, hn⟩ | ⟨g, cap, cur, hv, _, hg, h1, _, _, htake⟩
    · subst hn
      have : xs = [] := List.length_eq_zero_iff.1 (by simpa using h.1)
      subst this
      exact ⟨none, 0, hv, Nat.le_refl _, by simp, Sl.nil⟩
    · refine ⟨_, cap, hv, h1, h.1, ?_⟩
      rw [hv] at h'
      exact Sl.of_own h'
theorem OwnR.alloc (h : OwnR w base e size v n xs) (o : Obj) : OwnR (w.alloc o) base e size v n xs := h.imp id fun h => World.ownsRow.alloc h o
theorem OwnR.drew (h : OwnR w base e size v n xs) : OwnR w.drew base e size v n xs := h
theorem OwnR.drewN (h : OwnR w base e size v n xs) (m : Nat) : OwnR (w.drewN m) base e size v n xs := h
theorem OwnR.grown {row : Option Nat} (h : OwnR w base e size v n xs) (hg : w.grownBy w' row) (hne : v.ownBlock = none ∨ v.ownBlock ≠ row) : OwnR w' base e size v n xs := h.imp id fun h => World.ownsRow.kept h hg hne
theorem OwnR.below (h : OwnR w base e size v n xs) (hb : Below w.heap.size w w') : OwnR w' base e size v n xs := by
  refine h.imp id fun h => ⟨h.1, ?_⟩
  rcases h.2 with h1 | ⟨g, cap, cur, hv, hb0, hg, h1⟩
  · exact .inl h1
  · exact .inr ⟨g, cap, cur, hv, hb0, Bk.below hg hb (Bk.lt hg), h1⟩
theorem OwnR.mono {base' : Nat} (h : OwnR w base e size v n xs) (hb : base' ≤ base) : OwnR w base' e size v n xs := by
  refine h.imp id fun h => ⟨h.1, ?_⟩
  rcases h.2 with h1 | ⟨g, cap, cur, hv, hb0, h1⟩
  · exact .inl h1
  · exact .inr ⟨g, cap, cur, hv, by omega, h1⟩
theorem OwnR.zero (w : World) (base : Nat) (e : TypeId) (size : Nat) (A : Option Addr) : OwnR w base e size (.slice A 0 0) 0 [] := .inl ⟨rfl, rfl, A, rfl⟩
end

section
variable {w w' : World} {base : Nat} {e : TypeId} {k : IntKind} {v : Value} {l : List Int}
theorem OwnL.form (h : OwnL w base e k v l) : ∃ a c, v = .slice a l.length c ∧ l.length ≤ c ∧ Sl w w.heap.size a (l.map (Value.int k)) := by
  obtain ⟨a, c, h1, h2, _, h3⟩ := OwnR.form h
  exact ⟨a, c, h1, h2, h3⟩
theorem OwnL.sl {a : Option Addr} {n c : Nat} (h : OwnL w base e k (.slice a n c) l) : Sl w w.heap.size a (l.map (Value.int k)) := by
  obtain ⟨a', c', hv, _, hs⟩ := h.form
  injection hv with h1 h2 h3
  subst h1
  exact hs
theorem OwnL.len {a : Option Addr} {n c : Nat} (h : OwnL w base e k (.slice a n c) l) : n = l.length ∧ l.length ≤ c := by
  obtain ⟨a', c', hv, hc, _⟩ := h.form
  injection hv with h1 h2 h3
  subst h3
  exact ⟨h2, hc⟩
theorem OwnL.alloc (h : OwnL w base e k v l) (o : Obj) : OwnL (w.alloc o) base e k v l := OwnR.alloc h o
theorem OwnL.drew (h : OwnL w base e k v l) : OwnL w.drew base e k v l := h
theorem OwnL.drewN (h : OwnL w base e k v l) (n : Nat) : OwnL (w.drewN n) base e k v l := h
theorem OwnL.grown {row : Option Nat} (h : OwnL w base e k v l) (hg : w.grownBy w' row) (hne : v.ownBlock = none ∨ v.ownBlock ≠ row) : OwnL w' base e k v l := OwnR.grown h hg hne
theorem OwnL.below (h : OwnL w base e k v l) (hb : Below w.heap.size w w') : OwnL w' base e k v l := OwnR.below h hb
theorem OwnL.mono {base' : Nat} (h : OwnL w base e k v l) (hb : base' ≤ base) : OwnL w base' e k v l := OwnR.mono h hb
theorem OwnL.nil (w : World) (base : Nat) (e : TypeId) (k : IntKind) (A : Option Addr) : OwnL w base e k (.slice A 0 0) [] := OwnR.zero w base e 1 A
end

def RetL (k : IntKind) (w : World) (l : List Int) (e : Ending) (w' : World) : Prop :=
  ∃ a c, e = .returned (.slice a l.length c) ∧ l.length ≤ c ∧ Sl w' w'.heap.size a (l.map (Value.int k)) ∧ Below w.heap.size w w'
theorem RetL.of {k : IntKind} {w w' : World} {l : List Int} {e : Ending} {base : Nat} {t : TypeId} {v : Value} (he : e = .returned v) (ho : OwnL w' base t k v l) (hb : Below w.heap.size w w') : RetL k w l e w' := by
  obtain ⟨a, c, rfl, hc, hs⟩ := ho.form
  exact ⟨a, c, he, hc, hs, hb⟩
def RetV (w : World) (v : Value) (e : Ending) (w' : World) : Prop := e = .returned v ∧ Below w.heap.size w w'

section
variable {P : Program} {ops : Array Oper} {rest : List Oper} {o : Oper} {a : Act} {Q : Exit → Act → World → Prop}
theorem int_cells (k : IntKind) (l : List Int) : ∀ u ∈ l.map (Value.int k), u.oneCell' = true := by
  intro u hu
  simp at hu
  obtain ⟨z, _, rfl⟩ := hu
  rfl
theorem wp_appL {K : Act → World → Prop} (w0 : World) (s x : Operand) (t : TypeId) (ho : o.op = .call { callee := .builtin .append, args := #[s, x], argTypes := #[t, t] })
    {e : TypeId} {bytes : Nat} (E : EI P t e 1 bytes) (hb8 : bytes ≤ 8) (base : Nat) (k : IntKind) (v : Value) (l : List Int) (hs : a.eval s = v) (hown : OwnL w0 base e k v l)
    (B : Nat) (A : Option Addr) (m c : Nat) (news : List Int) (hx : a.eval x = .slice A m c) (hm : m = news.length) (hr : Sl w0 B A (news.map (Value.int k)))
    (hl : l.length ≤ 1099511627776) (hl2 : news.length ≤ 1099511627776) (hbase : base ≤ w0.heap.size)
    (h : ∀ v' w', OwnL w' base e k v' (l ++ news) → w0.grownBy w' v.ownBlock → Below base w0 w' → K (a.put o.dst v') w') : o.wp P a w0 K Q := by
  subst hm
  refine wp_appR w0 s x t ho E base v l.length _ hs hown B A news.length c _ hx hr (by simp) (int_cells k news) (by unfold maxLen; omega) ?_ hbase ?_
  · have : (l.length + news.length) * bytes ≤ (l.length + news.length) * 8 := Nat.mul_le_mul_left _ hb8
    omega
  · intro v' w' ho' hg hbw
    refine h v' w' ?_ hg hbw
    unfold OwnL
    simpa using ho'
theorem appL_sl (w0 : World) (hgd : o.guard = none) (s x : Operand) (t : TypeId) (ho : o.op = .call { callee := .builtin .append, args := #[s, x], argTypes := #[t, t] })
    {e : TypeId} {bytes : Nat} (E : EI P t e 1 bytes) (hb8 : bytes ≤ 8) (base : Nat) (k : IntKind) (v : Value) (l : List Int) (hs : a.eval s = v) (hown : OwnL w0 base e k v l)
    (B : Nat) (A : Option Addr) (m c : Nat) (news : List Int) (hx : a.eval x = .slice A m c) (hm : m = news.length) (hr : Sl w0 B A (news.map (Value.int k)))
    (hl : l.length ≤ 1099511627776) (hl2 : news.length ≤ 1099511627776) (hbase : base ≤ w0.heap.size)
    (h : ∀ v' w', OwnL w' base e k v' (l ++ news) → w0.grownBy w' v.ownBlock → Below base w0 w' → wpList P ops Q rest (a.put o.dst v') w') :
    wpList P ops Q (o :: rest) a w0 :=
  wpList_plain hgd fun _ hK => wp_appL w0 s x t ho E hb8 base k v l hs hown B A m c news hx hm hr hl hl2 hbase fun v' w' h2 h3 h4 => hK _ _ (h v' w' h2 h3 h4)
theorem appL_one (w0 : World) (hgd : o.guard = none) (s x : Operand) (t : TypeId) (ho : o.op = .call { callee := .builtin .append, args := #[s, x], argTypes := #[t, t] })
    {e : TypeId} {bytes : Nat} (E : EI P t e 1 bytes) (hb8 : bytes ≤ 8) (base : Nat) (k : IntKind) (v : Value) (l : List Int) (z : Int) (hs : a.eval s = v) (hown : OwnL w0 base e k v l)
    (hx : a.eval x = .slice (some ⟨w0.heap.size, 0, none⟩) 1 1) (hl : l.length ≤ 1099511627776) (hbase : base ≤ w0.heap.size)
    (h : ∀ v' w', OwnL w' base e k v' (l ++ [z]) → w0.grownBy w' v.ownBlock → Below base w0 w' → wpList P ops Q rest (a.put o.dst v') w') :
    wpList P ops Q (o :: rest) a (w0.alloc (.cells #[.int k z] e)) := by
  refine appL_sl (w0.alloc (.cells #[.int k z] e)) hgd s x t ho E hb8 base k v l hs (hown.alloc _) _ _ 1 1 [z] hx rfl (Sl.lit w0 e #[.int k z]) hl (by simp) (Nat.le_trans hbase (by simp)) ?_
  intro v' w' ho' hg hbw
  refine h v' w' ho' ⟨hg.os, hg.tape, hg.output, Nat.le_trans (by simp) hg.size, fun k hk hne => (hg.block k (by simp; omega) hne).trans (Below.heap_alloc w0 _ k hk)⟩ ?_
  exact ((Below.refl base w0).alloc hbase _).trans hbw
end
end Go.Proofs.YtaghfmgeccapbaaGreatDoor
set_option maxRecDepth 100000
namespace Go.Av
variable [Rk]
open Go.Proofs Go.RowKit Go.Proofs.YtaghfmgeccapbaaGreatDoor
def nw (F : Nat → Nat → Prop) (w w' : World) : Nat → Nat → Prop := fun b o => F b o ∨ (w.heap.size ≤ b ∧ b < w'.heap.size)
theorem ext_nw {F : Nat → Nat → Prop} {w w' : World} (hlt : Lt F w) (hb : Below w.heap.size w w') : Ext (fun _ => False) F w (nw F w w') w' := by
  refine ⟨hb.os, hb.tape, hb.output, hb.size, fun b h _ => hb.block b h, fun b o h => .inl h, fun b o h => ?_, fun b es c hf hm => (hb.block b (hlt b 0 hf)).trans hm⟩
  unfold World.cell?
  rw [hb.block b (hlt b o h)]
theorem lt_nw {F : Nat → Nat → Prop} {w w' : World} (hlt : Lt F w) (hb : Below w.heap.size w w') : Lt (nw F w w') w' := by
  rintro b o (h | h)
  · exact Nat.lt_of_lt_of_le (hlt b o h) hb.size
  · exact h.2
theorem Den0.grow {F F' : Nat → Nat → Prop} {w : World} {v : Value} {d : D} (h : Den0 F w v d) (hF : ∀ b o, F b o → F' b o) : Den0 F' w v d :=
  h.ext (S := fun _ => False) ⟨rfl, rfl, rfl, Nat.le_refl _, fun _ _ _ => rfl, hF, fun _ _ _ => rfl, fun _ _ _ _ hm => hm⟩
def RetD (F : Nat → Nat → Prop) (w : World) (d : D) (e : Ending) (w' : World) : Prop := ∃ v, e = .returned v ∧ Below w.heap.size w w' ∧ ∀ c ν, Den c ν (nw F w w') w' v d
theorem RetD.ret [Gs] {P : Program} {μ : Mu} {F : Nat → Nat → Prop} {w w' : World} {d : D} {e : Ending} (hlt : Lt F w) (h : RetD F w d e w') : Ret P 0 μ F w d [] [] e w' := by
  obtain ⟨v, rfl, hb, hv⟩ := h
  refine ⟨v, nw F w w', fun _ _ => none, rfl, (ext_nw hlt hb).weaken (fun _ _ h => h.elim), lt_nw hlt hb, fun b o h => h.imp id fun h => .inl h.1, .inl ⟨rfl, hv, rooms_nil⟩, fun j i g h => ?_, fun j i j' i' g h => ?_, fun i bx hi => absurd hi (Nat.not_lt_zero i)⟩
  · cases h
  · cases h
theorem RetD.of {F : Nat → Nat → Prop} {w w' : World} {v : Value} {d : D} (hb : Below w.heap.size w w') (hv : Den0 (nw F w w') w' v d) : RetD F w d (.returned v) w' := ⟨v, rfl, hb, fun _ _ => .pure _ _ hv⟩
theorem Ret.retD [Gs] {P : Program} {μ : Mu} {F : Nat → Nat → Prop} {w w' : World} {d : D} {r : List Room} {e : Ending} (h : Ret P 0 μ F w d r [] e w') : RetD F w d e w' := by
  obtain ⟨v, F', nc, rfl, hE, hlt, hn, hv, _⟩ := h
  refine ⟨v, rfl, ⟨hE.os, hE.tape, hE.output, hE.size, fun b hb => hE.block b hb (S_zero _ b)⟩, ?_⟩
  rcases hv with ⟨_, hv, _⟩ | ⟨h1, _⟩
  · exact fun c ν => (hv c ν).ext (S := fun _ => False) ⟨rfl, rfl, rfl, Nat.le_refl _, fun _ _ _ => rfl, fun b o h => (hn b o h).imp id fun h' => ⟨h'.resolve_right (C_zero _ b), hlt b o h⟩, fun _ _ _ => rfl, fun _ _ _ _ hm => hm⟩
  · simp at h1
theorem list_sl {F : Nat → Nat → Prop} {w : World} {v : Value} {es : List D} {sz : Nat} (hlt : Lt F w) (h : Den0 F w v (.list es)) (hs : ∀ e ∈ es, (dcells e).length = sz) :
    ∃ a c vs, v = .slice a es.length c ∧ es.length ≤ c ∧ vs.length = es.length * sz ∧ Sl w w.heap.size a vs ∧ (∀ u ∈ vs, u.oneCell' = true) ∧ ∀ (i : Nat) (v : Value) (x : D), vs[i]? = some v → (flat es)[i]? = some x → Den0 F w v x := by
  cases h with
  | list a n c sz' es vs h1 h2 h3 h4 h5 h6 h7 =>
    subst h1
    have hl : vs.length = es.length * sz := by
      rcases es with _ | ⟨e0, r0⟩
      · simpa using h5
      · rw [h5, ← h4 e0 (by simp), ← hs e0 (by simp)]
    refine ⟨a, c, vs, rfl, h2, hl, ?_, ?_, h7⟩
    · intro hne
      rcases h6 with h6 | ⟨b, off, ha, hc⟩
      · exact absurd h6 hne
      · refine ⟨b, off, ha, ?_, fun i hi => (hc i _ (List.getElem?_eq_getElem hi)).2.1⟩
        have := (hc 0 _ (List.getElem?_eq_getElem (List.length_pos_iff.2 hne))).1
        exact hlt _ _ this
    · intro u hu
      rcases h6 with h6 | ⟨b, off, ha, hc⟩
      · rw [h6] at hu; cases hu
      · obtain ⟨i, hi⟩ := List.mem_iff_getElem?.1 hu
        exact (hc i _ hi).2.2
theorem own_den {F : Nat → Nat → Prop} {w : World} {base n sz : Nat} {e : TypeId} {v : Value} {vs : List Value} {es : List D} (hown : OwnR w base e sz v n vs) (hn : n = es.length) (hsz : 0 < sz) (hs : ∀ e ∈ es, (dcells e).length = sz)
    (hF : ∀ b o, base ≤ b → b < w.heap.size → F b o) (h1 : ∀ u ∈ vs, u.oneCell' = true) (hd : ∀ (i : Nat) (v : Value) (x : D), vs[i]? = some v → (flat es)[i]? = some x → Den0 F w v x) : Den0 F w v (.list es) := by
  rcases hown with ⟨h0, hv0, A, rfl⟩ | ⟨hl, ⟨rfl, h0⟩ | ⟨g, cap, cur, rfl, hg, hh, hc, hm, hcs, ht⟩⟩
  · subst hv0
    exact .list A 0 0 sz es [] (by omega) (Nat.le_refl _) hsz hs (by simp) (.inl rfl) hd
  · exact .list none 0 0 sz es vs (by omega) (Nat.le_refl _) hsz hs (by rw [hl, h0]) (.inl (List.eq_nil_of_length_eq_zero (by rw [hl, h0]; simp))) hd
  · refine .list _ n cap sz es vs hn.symm hc hsz hs hl (.inr ⟨g, 0, rfl, fun i v hv => ?_⟩) hd
    have hgl : g < w.heap.size := (Array.getElem?_eq_some_iff.1 hh).1
    refine ⟨hF _ _ hg hgl, ?_, h1 v (List.mem_of_getElem? hv)⟩
    rw [← ht, List.getElem?_take] at hv
    split at hv
    · unfold World.cell?
      simp only [hh, Nat.zero_add]
      simpa using hv
    · cases hv
theorem one_den {c : Nat → Nat} {ν : Nat → Nat → Nat} {F : Nat → Nat → Prop} {w : World} {vals : List Value} {d : D} (hl : vals.length = [d].length) (h : ∀ (i : Nat) (v : Value) (x : D), vals[i]? = some v → [d][i]? = some x → Den c ν F w v x) : ∃ v, vals = [v] ∧ Den c ν F w v d := by
  match vals, hl with
  | [v], _ => exact ⟨v, rfl, h 0 v d rfl rfl⟩

def noPtr : D → Bool
  | .int _ _ | .str _ | .bool _ | .con _ => true
  | _ => false
theorem noPtr_den {F F' : Nat → Nat → Prop} {w w' : World} {v : Value} {x : D} (hx : noPtr x = true) (h : Den0 F w v x) : Den0 F' w' v x := by
  cases h with
  | int k n => exact .int k n
  | str l => exact .str l
  | bool b => exact .bool b
  | con v h => exact .con v h
  | list => cases hx
  | agg => cases hx
  | fix => cases hx
  | iface => cases hx
  | func => cases hx
  | imap => cases hx
def Keep (F G : Nat → Nat → Prop) (w : World) (es : List D) : Prop := ∀ (W : World) (v : Value) (x : D), x ∈ flat es → Below w.heap.size w W → Den0 F w v x → Den0 (nw G w W) W v x
theorem Keep.same {F : Nat → Nat → Prop} {w : World} {es : List D} (hlt : Lt F w) : Keep F F w es := fun W v x _ hb h => h.ext (ext_nw hlt hb)
theorem Keep.leaf {F G : Nat → Nat → Prop} {w : World} {es : List D} (h : ∀ x ∈ flat es, noPtr x = true) : Keep F G w es := fun W v x hx _ hd => noPtr_den (h x hx) hd
theorem ei23 : EI Tryz.prog 46 50 3 48 := EI.mk (z := .agg #[.string ⟨#[]⟩, .string ⟨#[]⟩, .string ⟨#[]⟩]) (by kernel_rfl) (by kernel_rfl) rfl (by decide)
theorem clone46_gen (es : List D) (F G : Nat → Nat → Prop) (w : World) (v : Value) (hlt : Lt F w) (hd : Den0 F w v (.list es)) (hk : Keep F G w es) (hs : ∀ e ∈ es, (dcells e).length = 3) (hL : es.length ≤ 1000000000) :
    Calls Tryz.prog 59 #[v] w (RetD G w (.list es)) := by
  obtain ⟨a, c, vs, rfl, hc, hvl, hsl, h1, hx⟩ := list_sl hlt hd hs
  have hs0 := hsl.alloc (Nat.le_refl _) (.cells #[] 50)
  have ho0 : OwnR (w.alloc (.cells #[] 50)) w.heap.size 50 3 (.slice (some ⟨w.heap.size, 0, none⟩) 0 0) 0 [] := .inl ⟨rfl, rfl, _, rfl⟩
  cases a with
  | none =>
    have hvs : vs = [] := by
      apply Classical.byContradiction
      intro hne
      obtain ⟨b, off, e, _⟩ := hsl hne
      cases e
    have he : es = [] := List.eq_nil_of_length_eq_zero (by rw [hvs] at hvl; simp at hvl; omega)
    subst he
    have qT : ∀ (w : World) (a : Option Addr) (n c : Nat), (binOp .eql 46 (.slice a n c) (.slice none 0 0)).run Tryz.prog w = .ok (.bool a.isNone) w := fun w a n c => Lib.run_eql_slice_nil w _ _ a n c 0 0 (show Tryz.prog.underlying 46 = some (.slice 50) by kernel_rfl)
    go_enter Tryz.func59, Tryz.ntmps59
    go_wp2_with fail
    go_ret
    exact RetD.of (Below.refl _ _) (.list none 0 0 3 [] [] rfl (Nat.le_refl _) (by decide) hs rfl (.inl rfl) (by simp))
  | some p =>
    have qT : ∀ (w : World) (a : Option Addr) (n c : Nat), (binOp .eql 46 (.slice a n c) (.slice none 0 0)).run Tryz.prog w = .ok (.bool a.isNone) w := fun w a n c => Lib.run_eql_slice_nil w _ _ a n c 0 0 (show Tryz.prog.underlying 46 = some (.slice 50) by kernel_rfl)
    go_enter Tryz.func59, Tryz.ntmps59
    go_wp2_with (at_builtin; refine app_slR _ rfl (.tmp 5) (.tmp 6) 46 rfl ei23 w.heap.size _ 0 [] rfl ho0 w.heap.size (some p) es.length c vs rfl hs0 hvl h1 (by simp only [maxLen]; omega) (by omega) (by simp) ?_; intro v w1 ho1 hg1 hb1)
    go_ret
    have hb : Below w.heap.size w w1 := ((Below.refl _ w).alloc (Nat.le_refl _) _).trans hb1
    refine RetD.of hb (own_den ho1 (by simp) (by decide) hs (fun b o h1 h2 => .inr ⟨h1, h2⟩) (by simpa using h1) fun i v x hv hxx => ?_)
    exact hk _ _ _ (List.mem_of_getElem? hxx) hb (hx i v x (by simpa using hv) hxx)

theorem clone46_any (es : List D) (F : Nat → Nat → Prop) (w : World) (v : Value) (hlt : Lt F w) (hd : Den0 F w v (.list es)) (hs : ∀ e ∈ es, (dcells e).length = 3) (hL : es.length ≤ 1000000000) :
    Calls Tryz.prog 59 #[v] w (RetD F w (.list es)) :=
  clone46_gen es F F w v hlt hd (Keep.same hlt) hs hL

theorem ei24 : EI Tryz.prog 24 9 1 16 := EI.mk (z := .string ⟨#[]⟩) (by kernel_rfl) (by kernel_rfl) rfl (by decide)
theorem clone47_gen (es : List D) (F G : Nat → Nat → Prop) (w : World) (v : Value) (hlt : Lt F w) (hd : Den0 F w v (.list es)) (hk : Keep F G w es) (hs : ∀ e ∈ es, (dcells e).length = 1) (hL : es.length ≤ 1000000000) :
    Calls Tryz.prog 60 #[v] w (RetD G w (.list es)) := by
  obtain ⟨a, c, vs, rfl, hc, hvl, hsl, h1, hx⟩ := list_sl hlt hd hs
  have hs0 := hsl.alloc (Nat.le_refl _) (.cells #[] 9)
  have ho0 : OwnR (w.alloc (.cells #[] 9)) w.heap.size 9 1 (.slice (some ⟨w.heap.size, 0, none⟩) 0 0) 0 [] := .inl ⟨rfl, rfl, _, rfl⟩
  cases a with
  | none =>
    have hvs : vs = [] := by
      apply Classical.byContradiction
      intro hne
      obtain ⟨b, off, e, _⟩ := hsl hne
      cases e
    have he : es = [] := List.eq_nil_of_length_eq_zero (by rw [hvs] at hvl; simp at hvl; omega)
    subst he
    have qT : ∀ (w : World) (a : Option Addr) (n c : Nat), (binOp .eql 24 (.slice a n c) (.slice none 0 0)).run Tryz.prog w = .ok (.bool a.isNone) w := fun w a n c => Lib.run_eql_slice_nil w _ _ a n c 0 0 (show Tryz.prog.underlying 24 = some (.slice 9) by kernel_rfl)
    go_enter Tryz.func60, Tryz.ntmps60
    go_wp2_with fail
    go_ret
    exact RetD.of (Below.refl _ _) (.list none 0 0 1 [] [] rfl (Nat.le_refl _) (by decide) hs rfl (.inl rfl) (by simp))
  | some p =>
    have qT : ∀ (w : World) (a : Option Addr) (n c : Nat), (binOp .eql 24 (.slice a n c) (.slice none 0 0)).run Tryz.prog w = .ok (.bool a.isNone) w := fun w a n c => Lib.run_eql_slice_nil w _ _ a n c 0 0 (show Tryz.prog.underlying 24 = some (.slice 9) by kernel_rfl)
    go_enter Tryz.func60, Tryz.ntmps60
    go_wp2_with (at_builtin; refine app_slR _ rfl (.tmp 5) (.tmp 6) 24 rfl ei24 w.heap.size _ 0 [] rfl ho0 w.heap.size (some p) es.length c vs rfl hs0 hvl h1 (by simp only [maxLen]; omega) (by omega) (by simp) ?_; intro v w1 ho1 hg1 hb1)
    go_ret
    have hb : Below w.heap.size w w1 := ((Below.refl _ w).alloc (Nat.le_refl _) _).trans hb1
    refine RetD.of hb (own_den ho1 (by simp) (by decide) hs (fun b o h1 h2 => .inr ⟨h1, h2⟩) (by simpa using h1) fun i v x hv hxx => ?_)
    exact hk _ _ _ (List.mem_of_getElem? hxx) hb (hx i v x (by simpa using hv) hxx)
theorem clone47_any (es : List D) (F : Nat → Nat → Prop) (w : World) (v : Value) (hlt : Lt F w) (hd : Den0 F w v (.list es)) (hs : ∀ e ∈ es, (dcells e).length = 1) (hL : es.length ≤ 1000000000) :
    Calls Tryz.prog 60 #[v] w (RetD F w (.list es)) :=
  clone47_gen es F F w v hlt hd (Keep.same hlt) hs hL

end Go.Av
namespace Go.Proofs.YtaghfmgeccapbaaGreatDoor
open Go.RowKit

abbrev Ge (w w' : World) : Prop := Below w.heap.size w w'
section
variable {w w' w'' : World} {o o' : Obj}
theorem Ge.new (h : Ge w w') (o : Obj) : Ge w (w'.alloc o) := Below.alloc h h.size o
theorem Ge.drew (h : Ge w w') : Ge w w'.drew := Below.drew h
theorem Ge.drewN (h : Ge w w') (n : Nat) : Ge w (w'.drewN n) := below_drewN h n
theorem Ge.tr (h : Ge w w') (h' : Ge w' w'') : Ge w w'' := Below.trans h (h'.mono h.size)
theorem Sl.ge {B : Nat} {a : Option Addr} {xs : List Value} (h : Sl w B a xs) (hB : B ≤ w.heap.size) (hg : Ge w w') : Sl w' B a xs := h.below (hg.mono hB)
end

section
variable {P : Program} {ops : Array Oper} {rest : List Oper} {o : Oper} {a : Act} {Q : Exit → Act → World → Prop}
end
end Go.Proofs.YtaghfmgeccapbaaGreatDoor
namespace Go.Av
variable [Rk]
open Go.Proofs Go.RowKit Go.Proofs.YtaghfmgeccapbaaGreatDoor
theorem den_ge {F : Nat → Nat → Prop} {w W : World} {v : Value} {d : D} (h : Den0 F w v d) (hlt : Lt F w) (hb : Ge w W) : Den0 F W v d :=
  h.ext (S := fun _ => False) ⟨hb.os, hb.tape, hb.output, hb.size, fun b h _ => hb.block b h, fun b o h => h, fun b o h => by unfold World.cell?; rw [hb.block b (hlt b o h)], fun b es c hf hm => (hb.block b (hlt b 0 hf)).trans hm⟩
theorem lt_ge {F : Nat → Nat → Prop} {w W : World} (hlt : Lt F w) (hb : Ge w W) : Lt F W := fun b o h => Nat.lt_of_lt_of_le (hlt b o h) hb.size
def nx (F : Nat → Nat → Prop) (m : Nat) (w' : World) : Nat → Nat → Prop := fun b o => F b o ∨ (m ≤ b ∧ b < w'.heap.size)
theorem nx_keep {F : Nat → Nat → Prop} {w W W2 : World} {m m' A : Nat} {v : Value} {d : D} (h : Den0 (nx F m W) W v d) (hlt : Lt F w) (hW : w.heap.size ≤ W.heap.size) (hA : w.heap.size ≤ A) (hA2 : A < m) (hm : m' ≤ m) (hg : W.grownBy W2 (some A)) : Den0 (nx F m' W2) W2 v d := by
  have hne : ∀ b o, nx F m W b o → b < W.heap.size ∧ b ≠ A := by
    rintro b o (h | h)
    · have := hlt b o h
      exact ⟨by omega, by omega⟩
    · exact ⟨h.2, by omega⟩
  refine h.ext (S := fun b => b = A) ⟨hg.os, hg.tape, hg.output, hg.size, fun b h hn => hg.block b h (fun e => hn (by injection e)), fun b o h => ?_, fun b o h => ?_, fun b es c hf hm => (hg.block b (hne b 0 hf).1 (fun e => (hne b 0 hf).2 (by injection e))).trans hm⟩
  · exact h.imp id fun h => ⟨by omega, Nat.lt_of_lt_of_le h.2 hg.size⟩
  · unfold World.cell?
    rw [hg.block b (hne b o h).1 (fun e => (hne b o h).2 (by injection e))]
theorem nx_of_nw {F : Nat → Nat → Prop} {W W' : World} {m : Nat} {v : Value} {d : D} (h : Den0 (nw F W W') W' v d) (hm : m ≤ W.heap.size) : Den0 (nx F m W') W' v d :=
  h.grow fun b o h => h.imp id fun h => ⟨Nat.le_trans hm h.1, h.2⟩
theorem grown_refl (w : World) (r : Option Nat) : w.grownBy w r := ⟨rfl, rfl, rfl, Nat.le_refl _, fun _ _ _ => rfl⟩
theorem grown_ge {a w w' : World} {r : Option Nat} (h : a.grownBy w r) (k : Ge w w') : a.grownBy w' r :=
  ⟨k.os.trans h.os, k.tape.trans h.tape, k.output.trans h.output, Nat.le_trans h.size k.size, fun b hb hne => (k.block b (Nat.lt_of_lt_of_le hb h.size)).trans (h.block b hb hne)⟩
theorem ge_put {w w' : World} (h : Ge w w') {p : Addr} (hp : w.heap.size ≤ p.block) (v : Value) : Ge w (w'.setCell p v) := Below.setCell h hp v
theorem below_of_grown_row {w W W2 : World} {B : Nat} (h : Ge w W) (hg : W.grownBy W2 (some B)) (hB : w.heap.size ≤ B) : Ge w W2 :=
  ⟨hg.os.trans h.os, hg.tape.trans h.tape, hg.output.trans h.output, Nat.le_trans h.size hg.size, fun b hb => (hg.block b (Nat.lt_of_lt_of_le hb h.size) (fun e => by injection e with e; omega)).trans (h.block b hb)⟩
theorem clone46_ge {es : List D} {F G : Nat → Nat → Prop} {w W : World} {v : Value} (hlt : Lt F w) (hd : Den0 F w v (.list es)) (hk : ∀ W, Ge w W → Keep F G W es) (hs : ∀ e ∈ es, (dcells e).length = 3) (hL : es.length ≤ 1000000000) (hG : Ge w W) :
    Calls Tryz.prog 59 #[v] W fun e W' => ∃ x n c, e = .returned (.slice x n c) ∧ Ge W W' ∧ Den0 (nw G W W') W' (.slice x n c) (.list es) := by
  refine (clone46_gen es F G W v (lt_ge hlt hG) (den_ge hd hlt hG) (hk W hG) hs hL).mono ?_
  rintro e W' ⟨v', rfl, hb, hv⟩
  have h := (hv (fun _ => 0) fun _ _ => 0).list_
  cases h with
  | list a n c sz es vs h1 h2 h3 h4 h5 h6 h7 => exact ⟨a, n, c, rfl, hb, .list a n c sz es vs h1 h2 h3 h4 h5 h6 h7⟩
theorem clone47_ge {es : List D} {F G : Nat → Nat → Prop} {w W : World} {v : Value} (hlt : Lt F w) (hd : Den0 F w v (.list es)) (hk : ∀ W, Ge w W → Keep F G W es) (hs : ∀ e ∈ es, (dcells e).length = 1) (hL : es.length ≤ 1000000000) (hG : Ge w W) :
    Calls Tryz.prog 60 #[v] W fun e W' => ∃ x n c, e = .returned (.slice x n c) ∧ Ge W W' ∧ Den0 (nw G W W') W' (.slice x n c) (.list es) := by
  refine (clone47_gen es F G W v (lt_ge hlt hG) (den_ge hd hlt hG) (hk W hG) hs hL).mono ?_
  rintro e W' ⟨v', rfl, hb, hv⟩
  have h := (hv (fun _ => 0) fun _ _ => 0).list_
  cases h with
  | list a n c sz es vs h1 h2 h3 h4 h5 h6 h7 => exact ⟨a, n, c, rfl, hb, .list a n c sz es vs h1 h2 h3 h4 h5 h6 h7⟩
theorem copied_gen (p k : Int) (sp nm tx : ByteArray) (v4 v5 : Value) (la ls : List D) (F G : Nat → Nat → Prop) (w : World) (hlt : Lt F w) (hltG : Lt G w) (hk4 : ∀ W, Ge w W → Keep F G W la) (hk5 : ∀ W, Ge w W → Keep F G W ls) (hd4 : Den0 F w v4 (.list la)) (hd5 : Den0 F w v5 (.list ls))
    (hs4 : ∀ e ∈ la, (dcells e).length = 3) (hs5 : ∀ e ∈ ls, (dcells e).length = 1) (hL4 : la.length ≤ 1000000000) (hL5 : ls.length ≤ 1000000000) (o4 : v4.oneCell' = true) (o5 : v5.oneCell' = true) :
    Calls Tryz.prog 39 #[.agg #[.int .i64 p, .int .i64 k, .string sp, .string nm, v4, v5, .string tx]] w fun e w' => ∃ u4 u5, e = .returned (.agg #[.int .i64 p, .int .i64 k, .string sp, .string nm, u4, u5, .string tx]) ∧ Ge w w' ∧
      Den0 (nw G w w') w' u4 (.list la) ∧ Den0 (nw G w w') w' u5 (.list ls) ∧ u4.oneCell' = true ∧ u5.oneCell' = true := by
  have hW0 : ∀ o1 o2, Ge w ((w.alloc o1).alloc o2) := fun o1 o2 => ((Below.refl _ w).alloc (Nat.le_refl _) o1).alloc (by simp) o2
  have c46 := fun v W => clone46_ge (es := la) (F := F) (G := G) (w := w) (v := v) (W := W)
  have c47 := fun v W => clone47_ge (es := ls) (F := F) (G := G) (w := w) (v := v) (W := W)
  go_enter Tryz.func39, Tryz.ntmps39
  go_wp2_with fail
  have G0 := hW0 (.cells #[.int .i64 p, .int .i64 k, .string sp, .string nm, v4, v5, .string tx] 48) (.cells #[.int .i64 0, .int .i64 0, .string ⟨#[]⟩, .string ⟨#[]⟩, .slice none 0 0, .slice none 0 0, .string ⟨#[]⟩] 48)
  have B0 : Bk ((w.alloc (.cells #[.int .i64 p, .int .i64 k, .string sp, .string nm, v4, v5, .string tx] 48)).alloc (.cells #[.int .i64 0, .int .i64 0, .string ⟨#[]⟩, .string ⟨#[]⟩, .slice none 0 0, .slice none 0 0, .string ⟨#[]⟩] 48)) w.heap.size 48 #[.int .i64 p, .int .i64 k, .string sp, .string nm, v4, v5, .string tx] := (Bk.new _ _ _).alloc _
  have Z0 : Bk ((w.alloc (.cells #[.int .i64 p, .int .i64 k, .string sp, .string nm, v4, v5, .string tx] 48)).alloc (.cells #[.int .i64 0, .int .i64 0, .string ⟨#[]⟩, .string ⟨#[]⟩, .slice none 0 0, .slice none 0 0, .string ⟨#[]⟩] 48)) (w.heap.size + 1) 48 #[.int .i64 0, .int .i64 0, .string ⟨#[]⟩, .string ⟨#[]⟩, .slice none 0 0, .slice none 0 0, .string ⟨#[]⟩] := by
    have := Bk.new (w.alloc (.cells #[.int .i64 p, .int .i64 k, .string sp, .string nm, v4, v5, .string tx] 48)) 48 #[.int .i64 0, .int .i64 0, .string ⟨#[]⟩, .string ⟨#[]⟩, .slice none 0 0, .slice none 0 0, .string ⟨#[]⟩]
    simpa using this
  go_region_law (first
    | (go_simp; go_at_call 59; refine (c46 _ _ hlt hd4 hk4 hs4 hL4 (by first | exact G0 | exact G0.drew)).mono ?_; rintro e W4 ⟨x4, n4, e4, rfl, hb4, hv4⟩; have G4 := Ge.tr (by first | exact G0 | exact G0.drew) hb4; have B4 := Bk.below (by first | exact B0 | exact B0.drew) hb4 (by first | exact B0.lt | exact B0.drew.lt); have q4 := B4.cell 5; have q7 := B4.cell 4; have q5 := B4.free 4; have q6 := B4.free 5; have Z4 := Bk.below (by first | exact Z0 | exact Z0.drew) hb4 (by first | exact Z0.lt | exact Z0.drew.lt); simp only [List.getElem?_toArray, List.getElem?_cons_succ, List.getElem?_cons_zero] at q4 q7)
    | (go_simp; go_at_call 60; refine (c47 _ _ hlt hd5 hk5 hs5 hL5 (by first | exact G4 | exact G4.drew | exact ge_put G4 (by simp) _)).mono ?_; rintro e W5 ⟨x5, n5, e5, rfl, hb5, hv5⟩; have B5 := Bk.below (by first | exact B4 | exact B4.put _ _) hb5 (by first | (simp; exact B4.lt) | exact B4.lt); have s6 := B5.cell 4; have s7 := B5.cell 5; simp at s6 s7; have s4 := B5.free 4; have s5 := B5.free 5; have Z5 := Bk.below (by first | exact Z4 | exact Z4.other (by simp) _) hb5 (by first | exact Z4.lt | (simp; exact Z4.lt))))
  all_goals (
    have BF := (B5.put 4 (.slice x4 n4 e4)).put 5 (.slice x5 n5 e5)
    have ZF := (Z5.other (p := ⟨w.heap.size, 4, none⟩) (by simp) (.slice x4 n4 e4)).other (p := ⟨w.heap.size, 5, none⟩) (by simp) (.slice x5 n5 e5)
    have GA := grown_put (grown_put (grown_refl W5 (some w.heap.size)) (p := ⟨w.heap.size, 4, none⟩) rfl (.slice x4 n4 e4)) (p := ⟨w.heap.size, 5, none⟩) rfl (.slice x5 n5 e5)
    have hsz : w.heap.size < W4.heap.size := B4.lt
    have G5 : Ge w W5 := G4.tr hb5
    have z4 : w.heap.size + 2 ≤ W4.heap.size := Nat.le_trans (by first | (show _ ≤ ((w.heap.push _).push _).size; simp; done) | simp) hb4.size
    have v5F := nx_keep (A := w.heap.size) (nx_of_nw (m := w.heap.size + 2) hv5 (by first | exact z4 | (simp; exact z4))) hltG G5.size (Nat.le_refl _) (by omega) (Nat.le_refl _) GA
    have v4F := nx_keep (A := w.heap.size) (nx_of_nw (m := w.heap.size + 2) hv4 (by simp)) hltG G4.size (Nat.le_refl _) (by omega) (Nat.le_refl _) (grown_put (grown_put (grown_ge (by first | exact grown_refl W4 _ | exact grown_put (grown_refl W4 (some w.heap.size)) (p := ⟨w.heap.size, 4, none⟩) rfl (.slice x4 n4 e4)) hb5) (p := ⟨w.heap.size, 4, none⟩) rfl (.slice x4 n4 e4)) (p := ⟨w.heap.size, 5, none⟩) rfl (.slice x5 n5 e5))
    have GF : Ge w ((W5.setCell ⟨w.heap.size, 4, none⟩ (.slice x4 n4 e4)).setCell ⟨w.heap.size, 5, none⟩ (.slice x5 n5 e5)) := ge_put (ge_put G5 (by simp) _) (by simp) _
    clear GA B5 Z5 z4 s4 s5 s6 s7 q4 q5 q6 q7 B4 Z4 hb5 hv5 hv4 hb4 G5 G4
    generalize ((W5.setCell ⟨w.heap.size, 4, none⟩ (.slice x4 n4 e4)).setCell ⟨w.heap.size, 5, none⟩ (.slice x5 n5 e5)) = W6 at *
    have b0 := BF.cell 0; have b1 := BF.cell 1; have b2 := BF.cell 2; have b3 := BF.cell 3; have b4 := BF.cell 4; have b5 := BF.cell 5; have b6 := BF.cell 6
    have z0 := ZF.cell 0; have z1 := ZF.cell 1; have z2 := ZF.cell 2; have z3 := ZF.cell 3; have z4 := ZF.cell 4; have z5 := ZF.cell 5; have z6 := ZF.cell 6
    have f0 := ZF.free 0; have f1 := ZF.free 1; have f2 := ZF.free 2; have f3 := ZF.free 3; have f4 := ZF.free 4; have f5 := ZF.free 5; have f6 := ZF.free 6
    simp at b0 b1 b2 b3 b4 b5 b6 z0 z1 z2 z3 z4 z5 z6)
  all_goals go_wp2_with fail
  all_goals (
    have BZ := ((((((ZF.put 0 (.int .i64 p)).put 1 (.int .i64 k)).put 2 (.string sp)).put 3 (.string nm)).put 4 (.slice x4 n4 e4)).put 5 (.slice x5 n5 e5)).put 6 (.string tx)
    have GZ := grown_put (grown_put (grown_put (grown_put (grown_put (grown_put (grown_put (grown_refl W6 (some (w.heap.size + 1))) (p := ⟨w.heap.size + 1, 0, none⟩) rfl (.int .i64 p)) (p := ⟨w.heap.size + 1, 1, none⟩) rfl (.int .i64 k)) (p := ⟨w.heap.size + 1, 2, none⟩) rfl (.string sp)) (p := ⟨w.heap.size + 1, 3, none⟩) rfl (.string nm)) (p := ⟨w.heap.size + 1, 4, none⟩) rfl (.slice x4 n4 e4)) (p := ⟨w.heap.size + 1, 5, none⟩) rfl (.slice x5 n5 e5)) (p := ⟨w.heap.size + 1, 6, none⟩) rfl (.string tx)
    have v5Z := nx_keep (m' := w.heap.size) v5F hltG GF.size (by omega) (by omega) (by omega) GZ
    have v4Z := nx_keep (m' := w.heap.size) v4F hltG GF.size (by omega) (by omega) (by omega) GZ
    have GY : Ge w (((((((W6.setCell ⟨w.heap.size + 1, 0, none⟩ (.int .i64 p)).setCell ⟨w.heap.size + 1, 1, none⟩ (.int .i64 k)).setCell ⟨w.heap.size + 1, 2, none⟩ (.string sp)).setCell ⟨w.heap.size + 1, 3, none⟩ (.string nm)).setCell ⟨w.heap.size + 1, 4, none⟩ (.slice x4 n4 e4)).setCell ⟨w.heap.size + 1, 5, none⟩ (.slice x5 n5 e5)).setCell ⟨w.heap.size + 1, 6, none⟩ (.string tx)) := below_of_grown_row GF GZ (by omega)
    clear GZ GF b0 b1 b2 b3 b4 b5 b6 z0 z1 z2 z3 z4 z5 z6 f0 f1 f2 f3 f4 f5 f6 BF ZF
    generalize (((((((W6.setCell ⟨w.heap.size + 1, 0, none⟩ (.int .i64 p)).setCell ⟨w.heap.size + 1, 1, none⟩ (.int .i64 k)).setCell ⟨w.heap.size + 1, 2, none⟩ (.string sp)).setCell ⟨w.heap.size + 1, 3, none⟩ (.string nm)).setCell ⟨w.heap.size + 1, 4, none⟩ (.slice x4 n4 e4)).setCell ⟨w.heap.size + 1, 5, none⟩ (.slice x5 n5 e5)).setCell ⟨w.heap.size + 1, 6, none⟩ (.string tx)) = W7 at *
    have z0 := BZ.cell 0; have z1 := BZ.cell 1; have z2 := BZ.cell 2; have z3 := BZ.cell 3; have z4 := BZ.cell 4; have z5 := BZ.cell 5; have z6 := BZ.cell 6
    simp at z0 z1 z2 z3 z4 z5 z6
    refine ⟨rfl, .agg #[.int .i64 p, .int .i64 k, .string sp, .string nm, .slice x4 n4 e4, .slice x5 n5 e5, .string tx], ?_, _, _, rfl, GY, v4Z, v5Z, rfl, rfl⟩
    simp [results, go_sem, z0, z1, z2, z3, z4, z5, z6, Tryz.f39])
theorem copied_any (p k : Int) (sp nm tx : ByteArray) (v4 v5 : Value) (la ls : List D) (F : Nat → Nat → Prop) (w : World) (hlt : Lt F w) (hd4 : Den0 F w v4 (.list la)) (hd5 : Den0 F w v5 (.list ls))
    (hs4 : ∀ e ∈ la, (dcells e).length = 3) (hs5 : ∀ e ∈ ls, (dcells e).length = 1) (hL4 : la.length ≤ 1000000000) (hL5 : ls.length ≤ 1000000000) (o4 : v4.oneCell' = true) (o5 : v5.oneCell' = true) :
    Calls Tryz.prog 39 #[.agg #[.int .i64 p, .int .i64 k, .string sp, .string nm, v4, v5, .string tx]] w fun e w' => ∃ u4 u5, e = .returned (.agg #[.int .i64 p, .int .i64 k, .string sp, .string nm, u4, u5, .string tx]) ∧ Ge w w' ∧
      Den0 (nw F w w') w' u4 (.list la) ∧ Den0 (nw F w w') w' u5 (.list ls) ∧ u4.oneCell' = true ∧ u5.oneCell' = true :=
  copied_gen p k sp nm tx v4 v5 la ls F F w hlt hlt (fun W hG => Keep.same (lt_ge hlt hG)) (fun W hG => Keep.same (lt_ge hlt hG)) hd4 hd5 hs4 hs5 hL4 hL5 o4 o5
end Go.Av
namespace Go.Av
variable [Rk]
open Go.Proofs Go.RowKit Go.Proofs.YtaghfmgeccapbaaGreatDoor
theorem ei22 : EI Tryz.prog 22 48 7 112 := EI.mk (z := .agg #[.int .i64 0, .int .i64 0, .string ⟨#[]⟩, .string ⟨#[]⟩, .slice none 0 0, .slice none 0 0, .string ⟨#[]⟩]) (by kernel_rfl) (by kernel_rfl) rfl (by decide)
def isNode : D → Bool
  | .agg [.int .i64 _, .int .i64 _, .str _, .str _, .list as_, .list ss, .str _] => as_.all (fun e => (dcells e).length == 3) && ss.all (fun e => (dcells e).length == 1) && decide (as_.length ≤ 1000000) && decide (ss.length ≤ 1000000)
  | _ => false
theorem isNode_inv {d : D} (h : isNode d = true) : ∃ p k sp nm la ls tx, d = .agg [.int .i64 p, .int .i64 k, .str sp, .str nm, .list la, .list ls, .str tx] ∧ (∀ e ∈ la, (dcells e).length = 3) ∧ (∀ e ∈ ls, (dcells e).length = 1) ∧ la.length ≤ 1000000 ∧ ls.length ≤ 1000000 := by
  unfold isNode at h
  split at h
  · simp only [Bool.and_eq_true, List.all_eq_true, beq_iff_eq, decide_eq_true_eq] at h
    exact ⟨_, _, _, _, _, _, _, rfl, h.1.1.1, h.1.1.2, h.1.2, h.2⟩
  · cases h
theorem isNode_len {es : List D} (h : ∀ e ∈ es, isNode e = true) : ∀ e ∈ es, (dcells e).length = 7 := fun e he => by
  obtain ⟨p, k, sp, nm, la, ls, tx, rfl, _⟩ := isNode_inv (h e he)
  rfl
def RowN (F : Nat → Nat → Prop) (es : List D) (g : Nat) (wr : World) : Prop :=
  ∃ cur : Array Value, wr.heap[g]? = some (.cells cur 48 (0, 0)) ∧ ∀ (m : Nat) (x : D), (flat es)[m]? = some x → ∃ v : Value, cur[m]? = some v ∧ v.oneCell' = true ∧ Den0 (nx F (g + 1) wr) wr v x
theorem RowN.ge {F : Nat → Nat → Prop} {es : List D} {g : Nat} {w wr W : World} (h : RowN F es g wr) (hlt : Lt F w) (hw : w.heap.size ≤ wr.heap.size) (hb : Ge wr W) : RowN F es g W := by
  obtain ⟨cur, h1, h2⟩ := h
  refine ⟨cur, (hb.block g (Array.getElem?_eq_some_iff.1 h1).1).trans h1, fun m x hx => ?_⟩
  obtain ⟨v, h3, h4, h5⟩ := h2 m x hx
  refine ⟨v, h3, h4, h5.ext (S := fun _ => False) ⟨hb.os, hb.tape, hb.output, hb.size, fun b h _ => hb.block b h, fun b o h => h.imp id fun h => ⟨h.1, Nat.lt_of_lt_of_le h.2 hb.size⟩, fun b o h => ?_, fun b es c hf hm => ?_⟩⟩
  · have hb1 : b < wr.heap.size := h.elim (fun h => Nat.lt_of_lt_of_le (hlt b o h) hw) fun h => h.2
    unfold World.cell?
    rw [hb.block b hb1]
  · have hb1 : b < wr.heap.size := hf.elim (fun h => Nat.lt_of_lt_of_le (hlt b 0 h) hw) fun h => h.2
    exact (hb.block b hb1).trans hm
theorem RowN.put {F : Nat → Nat → Prop} {es : List D} {g m : Nat} {w wr : World} {v : Value} {x : D} (h : RowN F es g wr) (hlt : Lt F w) (hw : w.heap.size ≤ wr.heap.size) (hg : w.heap.size ≤ g) (hx : (flat es)[m]? = some x) (h1 : v.oneCell' = true) (hv : Den0 (nx F (g + 1) wr) wr v x) : RowN F es g (wr.setCell ⟨g, m, none⟩ v) := by
  obtain ⟨cur, h2, h3⟩ := h
  have hG : wr.grownBy (wr.setCell ⟨g, m, none⟩ v) (some g) := grown_put (grown_refl wr _) rfl v
  have keep : ∀ {u y}, Den0 (nx F (g + 1) wr) wr u y → Den0 (nx F (g + 1) (wr.setCell ⟨g, m, none⟩ v)) (wr.setCell ⟨g, m, none⟩ v) u y := fun hu => nx_keep hu hlt hw hg (Nat.lt_succ_self g) (Nat.le_refl _) hG
  refine ⟨cur.setIfInBounds m v, heap_setCell_same wr g m cur 48 v h2, fun m' x' hx' => ?_⟩
  obtain ⟨u, h4, h5, h6⟩ := h3 m' x' hx'
  by_cases hm : m' = m
  · subst hm
    rw [hx] at hx'
    obtain rfl := Option.some.inj hx'
    have hlt' := (Array.getElem?_eq_some_iff.1 h4).1
    exact ⟨v, by simp [hlt'], h1, keep hv⟩
  · exact ⟨u, by rw [Array.getElem?_setIfInBounds_ne (fun e => hm e.symm)]; exact h4, h5, keep h6⟩
theorem RowN.cell {F : Nat → Nat → Prop} {es : List D} {g : Nat} {wr : World} (h : RowN F es g wr) {m : Nat} {x : D} (hx : (flat es)[m]? = some x) : ∃ v, wr.cell? ⟨g, m, none⟩ = some v ∧ v.oneCell' = true ∧ Den0 (nx F (g + 1) wr) wr v x ∧ wr.frozen? ⟨g, m, none⟩ = false := by
  obtain ⟨cur, h1, h2⟩ := h
  obtain ⟨v, h3, h4, h5⟩ := h2 m x hx
  exact ⟨v, by rw [cell_of_row wr g m cur 48 (0, 0) h1]; exact h3, h4, h5, frozen_of_row wr g m cur 48 h1⟩
end Go.Av
namespace Go.Av
variable [Rk]
structure At where
  sp : List UInt8
  nm : List UInt8
  vl : List UInt8
  deriving DecidableEq
structure Nd where
  p : Int
  k : Int
  sp : List UInt8
  nm : List UInt8
  at_ : List At
  st : List (List UInt8)
  tx : List UInt8
  deriving DecidableEq
def At.d (a : At) : D := .agg [.str a.sp, .str a.nm, .str a.vl]
def Nd.d (n : Nd) : D := .agg [.int .i64 n.p, .int .i64 n.k, .str n.sp, .str n.nm, .list (n.at_.map At.d), .list (n.st.map .str), .str n.tx]
theorem getD_map {α : Type} {xs : List α} {f : α → D} {i : Nat} {x : α} (h : xs[i]? = some x) : (xs.map f).getD i .bad = f x := by
  simp [List.getD, h]
theorem some_at {α : Type} {xs : List α} {i : Nat} (h : i < xs.length) : ∃ x, xs[i]? = some x := ⟨_, List.getElem?_eq_getElem h⟩
theorem lenM {α : Type} (xs : List α) (f : α → D) : ((xs.map f).length : Int) = xs.length := by simp
theorem lenM0 {α : Type} (xs : List α) (f : α → D) : (xs.map f).length = xs.length := by simp
theorem wrapS (i : Nat) (h : i ≤ 140737488355328) : IntKind.i64.wrap ((i : Int) + 1) = ((i + 1 : Nat) : Int) := by
  rw [wrap64 _ (by omega) (by omega)]
  omega
theorem ndat (n : Nd) : n.d = .agg [.int .i64 n.p, .int .i64 n.k, .str n.sp, .str n.nm, .list (n.at_.map At.d), .list (n.st.map .str), .str n.tx] := rfl
def Small (ns : List Nd) : Prop := ns.length ≤ 10000 ∧ ∀ n ∈ ns, n.at_.length ≤ 1000000 ∧ n.st.length ≤ 1000000
end Go.Av
namespace Go.Av
def kAt (ns : List Nd) (i : Nat) : Int := match ns[i]? with | some n => n.k | none => 0
def pAt (ns : List Nd) (i : Nat) : Int := match ns[i]? with | some n => n.p | none => 0
def rowL (ns : List Nd) (key : Int) : Nat → List Int
  | 0 => []
  | k + 1 => if kAt ns k = 1 ∧ pAt ns k = key then rowL ns key k ++ [(k : Int)] else rowL ns key k
theorem rowL_len {ns : List Nd} {key : Int} : ∀ {m : Nat}, (rowL ns key m).length ≤ m
  | 0 => Nat.le_refl _
  | m + 1 => by
    have := rowL_len (ns := ns) (key := key) (m := m)
    rw [rowL]
    split
    · simp; omega
    · omega
theorem rowL_succ {ns : List Nd} {i : Nat} (hk : kAt ns i = 1) : rowL ns (pAt ns i) (i + 1) = rowL ns (pAt ns i) i ++ [(i : Int)] := by
  rw [rowL, if_pos ⟨hk, rfl⟩]
theorem elB_at {ns : List Nd} {n : Int} (h : (decide (0 ≤ n) && (decide (n < ns.length) && kAt ns n.toNat == 1)) = true) : ∃ i : Nat, n = (i : Int) ∧ i < ns.length ∧ kAt ns i = 1 := by
  simp only [Bool.and_eq_true, decide_eq_true_eq, beq_iff_eq] at h
  exact ⟨n.toNat, by omega, by omega, h.2.2⟩
def elB (ns : List Nd) (n : Int) : Bool := decide (0 ≤ n) && (decide (n < ns.length) && kAt ns n.toNat == 1)
def rowI (ns : List Nd) (n : Int) : List Int := if elB ns n = true then rowL ns (pAt ns n.toNat) (n.toNat + 1) else []
def parI (ns : List Nd) (n : Int) : Int × Bool := if elB ns n = true ∧ 0 ≤ pAt ns n.toNat then (pAt ns n.toNat, true) else (0, false)
def ahdI (ns : List Nd) (n : Int) : Int × Bool := if elB ns n = true then (match (rowL ns (pAt ns n.toNat) n.toNat).getLast? with | some a => (a, true) | none => (0, false)) else (0, false)
end Go.Av
namespace Go.Av
open Go.Proofs Go.RowKit Go.Proofs.YtaghfmgeccapbaaGreatDoor
variable [Rk]
theorem cloneA_own (es : List D) (F G : Nat → Nat → Prop) (w : World) (v : Value) (hlt : Lt F w) (hd : Den0 F w v (.list es)) (hk : Keep F G w es) (hs : ∀ e ∈ es, (dcells e).length = 3) (hL : es.length ≤ 1000000000) :
    Calls Tryz.prog 59 #[v] w fun e w' => ∃ u vs, e = .returned u ∧ Ge w w' ∧ OwnR w' w.heap.size 50 3 u es.length vs ∧ (∀ x ∈ vs, x.oneCell' = true) ∧ ∀ (i : Nat) (v : Value) (x : D), vs[i]? = some v → (flat es)[i]? = some x → Den0 (nw G w w') w' v x := by
  obtain ⟨a, c, vs, rfl, hc, hvl, hsl, h1, hx⟩ := list_sl hlt hd hs
  have hs0 := hsl.alloc (Nat.le_refl _) (.cells #[] 50)
  have ho0 : OwnR (w.alloc (.cells #[] 50)) w.heap.size 50 3 (.slice (some ⟨w.heap.size, 0, none⟩) 0 0) 0 [] := .inl ⟨rfl, rfl, _, rfl⟩
  cases a with
  | none =>
    have hvs : vs = [] := by
      apply Classical.byContradiction
      intro hne
      obtain ⟨b, off, e, _⟩ := hsl hne
      cases e
    have he : es = [] := List.eq_nil_of_length_eq_zero (by rw [hvs] at hvl; simp at hvl; omega)
    subst he
    have qT : ∀ (w : World) (a : Option Addr) (n c : Nat), (binOp .eql 46 (.slice a n c) (.slice none 0 0)).run Tryz.prog w = .ok (.bool a.isNone) w := fun w a n c => Lib.run_eql_slice_nil w _ _ a n c 0 0 (show Tryz.prog.underlying 46 = some (.slice 50) by kernel_rfl)
    go_enter Tryz.func59, Tryz.ntmps59
    go_wp2_with fail
    go_ret
    exact ⟨_, [], rfl, Below.refl _ _, .inl ⟨rfl, rfl, _, rfl⟩, by simp, fun i v x h => by simp at h⟩
  | some p =>
    have qT : ∀ (w : World) (a : Option Addr) (n c : Nat), (binOp .eql 46 (.slice a n c) (.slice none 0 0)).run Tryz.prog w = .ok (.bool a.isNone) w := fun w a n c => Lib.run_eql_slice_nil w _ _ a n c 0 0 (show Tryz.prog.underlying 46 = some (.slice 50) by kernel_rfl)
    go_enter Tryz.func59, Tryz.ntmps59
    go_wp2_with (at_builtin; refine app_slR _ rfl (.tmp 5) (.tmp 6) 46 rfl ei23 w.heap.size _ 0 [] rfl ho0 w.heap.size (some p) es.length c vs rfl hs0 hvl h1 (by simp only [maxLen]; omega) (by omega) (by simp) ?_; intro v w1 ho1 hg1 hb1)
    go_ret
    have hb : Below w.heap.size w w1 := ((Below.refl _ w).alloc (Nat.le_refl _) _).trans hb1
    rw [Nat.zero_add, List.nil_append] at ho1
    refine ⟨_, vs, rfl, hb, ho1, h1, fun i v x hv hxx => ?_⟩
    exact hk _ _ _ (List.mem_of_getElem? hxx) hb (hx i v x hv hxx)

theorem cloneS_own (es : List D) (F G : Nat → Nat → Prop) (w : World) (v : Value) (hlt : Lt F w) (hd : Den0 F w v (.list es)) (hk : Keep F G w es) (hs : ∀ e ∈ es, (dcells e).length = 1) (hL : es.length ≤ 1000000000) :
    Calls Tryz.prog 60 #[v] w fun e w' => ∃ u vs, e = .returned u ∧ Ge w w' ∧ OwnR w' w.heap.size 9 1 u es.length vs ∧ (∀ x ∈ vs, x.oneCell' = true) ∧ ∀ (i : Nat) (v : Value) (x : D), vs[i]? = some v → (flat es)[i]? = some x → Den0 (nw G w w') w' v x := by
  obtain ⟨a, c, vs, rfl, hc, hvl, hsl, h1, hx⟩ := list_sl hlt hd hs
  have hs0 := hsl.alloc (Nat.le_refl _) (.cells #[] 9)
  have ho0 : OwnR (w.alloc (.cells #[] 9)) w.heap.size 9 1 (.slice (some ⟨w.heap.size, 0, none⟩) 0 0) 0 [] := .inl ⟨rfl, rfl, _, rfl⟩
  cases a with
  | none =>
    have hvs : vs = [] := by
      apply Classical.byContradiction
      intro hne
      obtain ⟨b, off, e, _⟩ := hsl hne
      cases e
    have he : es = [] := List.eq_nil_of_length_eq_zero (by rw [hvs] at hvl; simp at hvl; omega)
    subst he
    have qT : ∀ (w : World) (a : Option Addr) (n c : Nat), (binOp .eql 24 (.slice a n c) (.slice none 0 0)).run Tryz.prog w = .ok (.bool a.isNone) w := fun w a n c => Lib.run_eql_slice_nil w _ _ a n c 0 0 (show Tryz.prog.underlying 24 = some (.slice 9) by kernel_rfl)
    go_enter Tryz.func60, Tryz.ntmps60
    go_wp2_with fail
    go_ret
    exact ⟨_, [], rfl, Below.refl _ _, .inl ⟨rfl, rfl, _, rfl⟩, by simp, fun i v x h => by simp at h⟩
  | some p =>
    have qT : ∀ (w : World) (a : Option Addr) (n c : Nat), (binOp .eql 24 (.slice a n c) (.slice none 0 0)).run Tryz.prog w = .ok (.bool a.isNone) w := fun w a n c => Lib.run_eql_slice_nil w _ _ a n c 0 0 (show Tryz.prog.underlying 24 = some (.slice 9) by kernel_rfl)
    go_enter Tryz.func60, Tryz.ntmps60
    go_wp2_with (at_builtin; refine app_slR _ rfl (.tmp 5) (.tmp 6) 24 rfl ei24 w.heap.size _ 0 [] rfl ho0 w.heap.size (some p) es.length c vs rfl hs0 hvl h1 (by simp only [maxLen]; omega) (by omega) (by simp) ?_; intro v w1 ho1 hg1 hb1)
    go_ret
    have hb : Below w.heap.size w w1 := ((Below.refl _ w).alloc (Nat.le_refl _) _).trans hb1
    rw [Nat.zero_add, List.nil_append] at ho1
    refine ⟨_, vs, rfl, hb, ho1, h1, fun i v x hv hxx => ?_⟩
    exact hk _ _ _ (List.mem_of_getElem? hxx) hb (hx i v x hv hxx)

end Go.Av
namespace Go.Av
open Go.Proofs Go.RowKit Go.Proofs.YtaghfmgeccapbaaGreatDoor
variable [Rk]
def OwnG (w : World) (lo hi : Nat) (e : TypeId) (sz : Nat) (v : Value) (n : Nat) (xs : List Value) : Prop :=
  ∃ A c, v = .slice A n c ∧ (n ≤ c ∧ c ≤ maxLen) ∧ xs.length = n * sz ∧ (n = 0 ∨ ∃ g cur, A = some ⟨g, 0, none⟩ ∧ lo ≤ g ∧ g < hi ∧ g < w.heap.size ∧ w.heap[g]? = some (.cells cur e (0, 0)) ∧ n * sz ≤ cur.size ∧ cur.toList.take (n * sz) = xs)
theorem OwnG.of {w : World} {base n sz : Nat} {e : TypeId} {v : Value} {xs : List Value} (h : OwnR w base e sz v n xs) : OwnG w base w.heap.size e sz v n xs := by
  rcases h with ⟨rfl, rfl, A, rfl⟩ | ⟨hl, ⟨rfl, rfl⟩ | ⟨g, cap, cur, rfl, hg, hh, hc, hm, hcs, ht⟩⟩
  · exact ⟨A, 0, rfl, ⟨Nat.le_refl _, Nat.zero_le _⟩, by simp, .inl rfl⟩
  · exact ⟨none, 0, rfl, ⟨Nat.le_refl _, Nat.zero_le _⟩, hl, .inl rfl⟩
  · have hgl : g < w.heap.size := (Array.getElem?_eq_some_iff.1 hh).1
    exact ⟨_, cap, rfl, ⟨hc, hm⟩, hl, .inr ⟨g, cur, rfl, hg, hgl, hgl, hh, by rw [hcs]; exact Nat.mul_le_mul_right _ hc, ht⟩⟩
theorem OwnG.gb {w w' : World} {lo lo' hi hi' n sz A : Nat} {e : TypeId} {v : Value} {xs : List Value} (h : OwnG w lo hi e sz v n xs) (hg : w.grownBy w' (some A)) (hA : A < lo) (hl : lo' ≤ lo) (hh : hi ≤ hi') : OwnG w' lo' hi' e sz v n xs := by
  obtain ⟨a, c, rfl, hc, hx, h | ⟨g, cur, rfl, h1, h2, h3, h4, h5, h6⟩⟩ := h
  · exact ⟨a, c, rfl, hc, hx, .inl h⟩
  · exact ⟨_, c, rfl, hc, hx, .inr ⟨g, cur, rfl, Nat.le_trans hl h1, Nat.lt_of_lt_of_le h2 hh, Nat.lt_of_lt_of_le h3 hg.size, (hg.block g h3 (fun e => by injection e with e; omega)).trans h4, h5, h6⟩⟩
theorem OwnG.ge {w w' : World} {lo lo' hi hi' n sz : Nat} {e : TypeId} {v : Value} {xs : List Value} (h : OwnG w lo hi e sz v n xs) (hg : Ge w w') (hl : lo' ≤ lo) (hh : hi ≤ hi') : OwnG w' lo' hi' e sz v n xs := by
  obtain ⟨a, c, rfl, hc, hx, h | ⟨g, cur, rfl, h1, h2, h3, h4, h5, h6⟩⟩ := h
  · exact ⟨a, c, rfl, hc, hx, .inl h⟩
  · exact ⟨_, c, rfl, hc, hx, .inr ⟨g, cur, rfl, Nat.le_trans hl h1, Nat.lt_of_lt_of_le h2 hh, Nat.lt_of_lt_of_le h3 hg.size, (hg.block g h3).trans h4, h5, h6⟩⟩
def Rd (vs : List Value) (es : List D) : Prop := (∀ x ∈ vs, x.oneCell' = true) ∧ ∀ (F : Nat → Nat → Prop) (w : World) (i : Nat) (v : Value) (x : D), vs[i]? = some v → (flat es)[i]? = some x → Den0 F w v x
theorem cloneA_ge {la : List D} {F : Nat → Nat → Prop} {w W : World} {v : Value} (hlt : Lt F w) (hd : Den0 F w v (.list la)) (hp : ∀ x ∈ flat la, noPtr x = true) (hs : ∀ e ∈ la, (dcells e).length = 3) (hL : la.length ≤ 1000000000) (hG : Ge w W) :
    Calls Tryz.prog 59 #[v] W fun e W' => ∃ x n c vs, e = .returned (.slice x n c) ∧ Ge W W' ∧ OwnG W' W.heap.size W'.heap.size 50 3 (.slice x n c) la.length vs ∧ Rd vs la := by
  refine (cloneA_own la F F W v (lt_ge hlt hG) (den_ge hd hlt hG) (Keep.same (lt_ge hlt hG)) hs hL).mono ?_
  rintro e W' ⟨u, vs, rfl, hb, ho, h1, hr⟩
  have hO := OwnG.of ho
  obtain ⟨A, c, rfl, _⟩ := id hO
  exact ⟨A, _, c, vs, rfl, hb, hO, h1, fun F w i v x hv hx => noPtr_den (hp x (List.mem_of_getElem? hx)) (hr i v x hv hx)⟩
theorem cloneS_ge {la : List D} {F : Nat → Nat → Prop} {w W : World} {v : Value} (hlt : Lt F w) (hd : Den0 F w v (.list la)) (hp : ∀ x ∈ flat la, noPtr x = true) (hs : ∀ e ∈ la, (dcells e).length = 1) (hL : la.length ≤ 1000000000) (hG : Ge w W) :
    Calls Tryz.prog 60 #[v] W fun e W' => ∃ x n c vs, e = .returned (.slice x n c) ∧ Ge W W' ∧ OwnG W' W.heap.size W'.heap.size 9 1 (.slice x n c) la.length vs ∧ Rd vs la := by
  refine (cloneS_own la F F W v (lt_ge hlt hG) (den_ge hd hlt hG) (Keep.same (lt_ge hlt hG)) hs hL).mono ?_
  rintro e W' ⟨u, vs, rfl, hb, ho, h1, hr⟩
  have hO := OwnG.of ho
  obtain ⟨A, c, rfl, _⟩ := id hO
  exact ⟨A, _, c, vs, rfl, hb, hO, h1, fun F w i v x hv hx => noPtr_den (hp x (List.mem_of_getElem? hx)) (hr i v x hv hx)⟩
end Go.Av
namespace Go.Av
open Go.Proofs Go.RowKit Go.Proofs.YtaghfmgeccapbaaGreatDoor
variable [Rk]
theorem copied_own (p k : Int) (sp nm tx : ByteArray) (v4 v5 : Value) (la ls : List D) (F : Nat → Nat → Prop) (w : World) (hlt : Lt F w) (hp4 : ∀ x ∈ flat la, noPtr x = true) (hp5 : ∀ x ∈ flat ls, noPtr x = true) (hd4 : Den0 F w v4 (.list la)) (hd5 : Den0 F w v5 (.list ls))
    (hs4 : ∀ e ∈ la, (dcells e).length = 3) (hs5 : ∀ e ∈ ls, (dcells e).length = 1) (hL4 : la.length ≤ 1000000000) (hL5 : ls.length ≤ 1000000000) (o4 : v4.oneCell' = true) (o5 : v5.oneCell' = true) :
    Calls Tryz.prog 39 #[.agg #[.int .i64 p, .int .i64 k, .string sp, .string nm, v4, v5, .string tx]] w fun e w' => ∃ u4 u5 m vs4 vs5, e = .returned (.agg #[.int .i64 p, .int .i64 k, .string sp, .string nm, u4, u5, .string tx]) ∧ Ge w w' ∧ w.heap.size ≤ m ∧ m ≤ w'.heap.size ∧
      OwnG w' w.heap.size m 50 3 u4 la.length vs4 ∧ OwnG w' m w'.heap.size 9 1 u5 ls.length vs5 ∧ Rd vs4 la ∧ Rd vs5 ls := by
  have hW0 : ∀ o1 o2, Ge w ((w.alloc o1).alloc o2) := fun o1 o2 => ((Below.refl _ w).alloc (Nat.le_refl _) o1).alloc (by simp) o2
  have c46 := fun v W => cloneA_ge (la := la) (F := F) (w := w) (v := v) (W := W)
  have c47 := fun v W => cloneS_ge (la := ls) (F := F) (w := w) (v := v) (W := W)
  go_enter Tryz.func39, Tryz.ntmps39
  go_wp2_with fail
  have G0 := hW0 (.cells #[.int .i64 p, .int .i64 k, .string sp, .string nm, v4, v5, .string tx] 48) (.cells #[.int .i64 0, .int .i64 0, .string ⟨#[]⟩, .string ⟨#[]⟩, .slice none 0 0, .slice none 0 0, .string ⟨#[]⟩] 48)
  have B0 : Bk ((w.alloc (.cells #[.int .i64 p, .int .i64 k, .string sp, .string nm, v4, v5, .string tx] 48)).alloc (.cells #[.int .i64 0, .int .i64 0, .string ⟨#[]⟩, .string ⟨#[]⟩, .slice none 0 0, .slice none 0 0, .string ⟨#[]⟩] 48)) w.heap.size 48 #[.int .i64 p, .int .i64 k, .string sp, .string nm, v4, v5, .string tx] := (Bk.new _ _ _).alloc _
  have Z0 : Bk ((w.alloc (.cells #[.int .i64 p, .int .i64 k, .string sp, .string nm, v4, v5, .string tx] 48)).alloc (.cells #[.int .i64 0, .int .i64 0, .string ⟨#[]⟩, .string ⟨#[]⟩, .slice none 0 0, .slice none 0 0, .string ⟨#[]⟩] 48)) (w.heap.size + 1) 48 #[.int .i64 0, .int .i64 0, .string ⟨#[]⟩, .string ⟨#[]⟩, .slice none 0 0, .slice none 0 0, .string ⟨#[]⟩] := by
    have := Bk.new (w.alloc (.cells #[.int .i64 p, .int .i64 k, .string sp, .string nm, v4, v5, .string tx] 48)) 48 #[.int .i64 0, .int .i64 0, .string ⟨#[]⟩, .string ⟨#[]⟩, .slice none 0 0, .slice none 0 0, .string ⟨#[]⟩]
    simpa using this
  go_region_law (first
    | (go_simp; go_at_call 59; refine (c46 _ _ hlt hd4 hp4 hs4 hL4 (by first | exact G0 | exact G0.drew)).mono ?_; rintro e W4 ⟨x4, n4, e4, vs4, rfl, hb4, hv4, hr4⟩; have G4 := Ge.tr (by first | exact G0 | exact G0.drew) hb4; have B4 := Bk.below (by first | exact B0 | exact B0.drew) hb4 (by first | exact B0.lt | exact B0.drew.lt); have q4 := B4.cell 5; have q7 := B4.cell 4; have q5 := B4.free 4; have q6 := B4.free 5; have Z4 := Bk.below (by first | exact Z0 | exact Z0.drew) hb4 (by first | exact Z0.lt | exact Z0.drew.lt); simp only [List.getElem?_toArray, List.getElem?_cons_succ, List.getElem?_cons_zero] at q4 q7)
    | (go_simp; go_at_call 60; refine (c47 _ _ hlt hd5 hp5 hs5 hL5 (by first | exact G4 | exact G4.drew | exact ge_put G4 (by simp) _)).mono ?_; rintro e W5 ⟨x5, n5, e5, vs5, rfl, hb5, hv5, hr5⟩; have B5 := Bk.below (by first | exact B4 | exact B4.put _ _) hb5 (by first | (simp; exact B4.lt) | exact B4.lt); have s6 := B5.cell 4; have s7 := B5.cell 5; simp at s6 s7; have s4 := B5.free 4; have s5 := B5.free 5; have Z5 := Bk.below (by first | exact Z4 | exact Z4.other (by simp) _) hb5 (by first | exact Z4.lt | (simp; exact Z4.lt))))
  all_goals (
    have BF := (B5.put 4 (.slice x4 n4 e4)).put 5 (.slice x5 n5 e5)
    have ZF := (Z5.other (p := ⟨w.heap.size, 4, none⟩) (by simp) (.slice x4 n4 e4)).other (p := ⟨w.heap.size, 5, none⟩) (by simp) (.slice x5 n5 e5)
    have GA := grown_put (grown_put (grown_refl W5 (some w.heap.size)) (p := ⟨w.heap.size, 4, none⟩) rfl (.slice x4 n4 e4)) (p := ⟨w.heap.size, 5, none⟩) rfl (.slice x5 n5 e5)
    have hsz : w.heap.size < W4.heap.size := B4.lt
    have G5 : Ge w W5 := G4.tr hb5
    have z4 : w.heap.size + 2 ≤ W4.heap.size := Nat.le_trans (by first | (show _ ≤ ((w.heap.push _).push _).size; simp; done) | simp) hb4.size
    have v5F := OwnG.gb (lo' := W4.heap.size) (hi' := W5.heap.size) hv5 GA (by first | omega | (simp; omega)) (by first | exact Nat.le_refl _ | simp) (Nat.le_refl _)
    have v4F := OwnG.gb (lo' := w.heap.size + 2) (hi' := W4.heap.size) hv4 (grown_put (grown_put (grown_ge (by first | exact grown_refl W4 _ | exact grown_put (grown_refl W4 (some w.heap.size)) (p := ⟨w.heap.size, 4, none⟩) rfl (.slice x4 n4 e4)) hb5) (p := ⟨w.heap.size, 4, none⟩) rfl (.slice x4 n4 e4)) (p := ⟨w.heap.size, 5, none⟩) rfl (.slice x5 n5 e5)) (by simp; try omega) (by simp) (Nat.le_refl _)
    have z6 : W4.heap.size ≤ W5.heap.size := by first | exact hb5.size | exact Nat.le_trans (by simp) hb5.size
    have z66 := z6
    have z7 : ((W5.setCell ⟨w.heap.size, 4, none⟩ (.slice x4 n4 e4)).setCell ⟨w.heap.size, 5, none⟩ (.slice x5 n5 e5)).heap.size = W5.heap.size := by simp
    have GF : Ge w ((W5.setCell ⟨w.heap.size, 4, none⟩ (.slice x4 n4 e4)).setCell ⟨w.heap.size, 5, none⟩ (.slice x5 n5 e5)) := ge_put (ge_put G5 (by simp) _) (by simp) _
    have z8 := z4
    clear GA B5 Z5 z4 s4 s5 s6 s7 q4 q5 q6 q7 B4 Z4 hb5 hv5 hv4 hb4 G5 G4
    generalize ((W5.setCell ⟨w.heap.size, 4, none⟩ (.slice x4 n4 e4)).setCell ⟨w.heap.size, 5, none⟩ (.slice x5 n5 e5)) = W6 at *
    have b0 := BF.cell 0; have b1 := BF.cell 1; have b2 := BF.cell 2; have b3 := BF.cell 3; have b4 := BF.cell 4; have b5 := BF.cell 5; have b6 := BF.cell 6
    have z0 := ZF.cell 0; have z1 := ZF.cell 1; have z2 := ZF.cell 2; have z3 := ZF.cell 3; have z4 := ZF.cell 4; have z5 := ZF.cell 5; have z6 := ZF.cell 6
    have f0 := ZF.free 0; have f1 := ZF.free 1; have f2 := ZF.free 2; have f3 := ZF.free 3; have f4 := ZF.free 4; have f5 := ZF.free 5; have f6 := ZF.free 6
    simp at b0 b1 b2 b3 b4 b5 b6 z0 z1 z2 z3 z4 z5 z6)
  all_goals go_wp2_with fail
  all_goals (
    have BZ := ((((((ZF.put 0 (.int .i64 p)).put 1 (.int .i64 k)).put 2 (.string sp)).put 3 (.string nm)).put 4 (.slice x4 n4 e4)).put 5 (.slice x5 n5 e5)).put 6 (.string tx)
    have GZ := grown_put (grown_put (grown_put (grown_put (grown_put (grown_put (grown_put (grown_refl W6 (some (w.heap.size + 1))) (p := ⟨w.heap.size + 1, 0, none⟩) rfl (.int .i64 p)) (p := ⟨w.heap.size + 1, 1, none⟩) rfl (.int .i64 k)) (p := ⟨w.heap.size + 1, 2, none⟩) rfl (.string sp)) (p := ⟨w.heap.size + 1, 3, none⟩) rfl (.string nm)) (p := ⟨w.heap.size + 1, 4, none⟩) rfl (.slice x4 n4 e4)) (p := ⟨w.heap.size + 1, 5, none⟩) rfl (.slice x5 n5 e5)) (p := ⟨w.heap.size + 1, 6, none⟩) rfl (.string tx)
    have v5Z := OwnG.gb (lo' := W4.heap.size) v5F GZ (by omega) (Nat.le_refl _) (Nat.le_trans (Nat.le_of_eq z7.symm) GZ.size)
    have v4Z := OwnG.gb (lo' := w.heap.size) (hi' := W4.heap.size) v4F GZ (by omega) (by omega) (Nat.le_refl _)
    have GY : Ge w (((((((W6.setCell ⟨w.heap.size + 1, 0, none⟩ (.int .i64 p)).setCell ⟨w.heap.size + 1, 1, none⟩ (.int .i64 k)).setCell ⟨w.heap.size + 1, 2, none⟩ (.string sp)).setCell ⟨w.heap.size + 1, 3, none⟩ (.string nm)).setCell ⟨w.heap.size + 1, 4, none⟩ (.slice x4 n4 e4)).setCell ⟨w.heap.size + 1, 5, none⟩ (.slice x5 n5 e5)).setCell ⟨w.heap.size + 1, 6, none⟩ (.string tx)) := below_of_grown_row GF GZ (by omega)
    have z99 := GZ.size
    clear GZ GF b0 b1 b2 b3 b4 b5 b6 z0 z1 z2 z3 z4 z5 z6 f0 f1 f2 f3 f4 f5 f6 BF ZF
    generalize (((((((W6.setCell ⟨w.heap.size + 1, 0, none⟩ (.int .i64 p)).setCell ⟨w.heap.size + 1, 1, none⟩ (.int .i64 k)).setCell ⟨w.heap.size + 1, 2, none⟩ (.string sp)).setCell ⟨w.heap.size + 1, 3, none⟩ (.string nm)).setCell ⟨w.heap.size + 1, 4, none⟩ (.slice x4 n4 e4)).setCell ⟨w.heap.size + 1, 5, none⟩ (.slice x5 n5 e5)).setCell ⟨w.heap.size + 1, 6, none⟩ (.string tx)) = W7 at *
    have z0 := BZ.cell 0; have z1 := BZ.cell 1; have z2 := BZ.cell 2; have z3 := BZ.cell 3; have z4 := BZ.cell 4; have z5 := BZ.cell 5; have z6 := BZ.cell 6
    simp at z0 z1 z2 z3 z4 z5 z6
    refine ⟨rfl, .agg #[.int .i64 p, .int .i64 k, .string sp, .string nm, .slice x4 n4 e4, .slice x5 n5 e5, .string tx], ?_, _, _, W4.heap.size, vs4, vs5, rfl, GY, by omega, by omega, v4Z, v5Z, hr4, hr5⟩
    simp [results, go_sem, z0, z1, z2, z3, z4, z5, z6, Tryz.f39])
end Go.Av
namespace Go.Av
variable [Rk]
open Go.Proofs Go.RowKit Go.Proofs.YtaghfmgeccapbaaGreatDoor
def szAll (sz : Nat) (es : List D) : Bool := es.all (fun e => (dcells e).length == sz) && decide (es.length ≤ 1000000)
theorem szAll_inv {sz : Nat} {es : List D} (h : szAll sz es = true) : (∀ e ∈ es, (dcells e).length = sz) ∧ es.length ≤ 1000000 := by
  unfold szAll at h
  simp only [Bool.and_eq_true, List.all_eq_true, beq_iff_eq, decide_eq_true_eq] at h
  exact h
def nodesOk (es : List D) : Bool := es.all isNode && decide (es.length ≤ 10000)
theorem nodesOk_inv {es : List D} (h : nodesOk es = true) : (∀ e ∈ es, isNode e = true) ∧ es.length ≤ 10000 := by
  unfold nodesOk at h
  simp only [Bool.and_eq_true, List.all_eq_true, decide_eq_true_eq] at h
  exact h
theorem den_list0 {c : Nat → Nat} {ν : Nat → Nat → Nat} {F : Nat → Nat → Prop} {w : World} {v : Value} {es : List D} (h : Den c ν F w v (.list es)) : Den0 F w v (.list es) := by
  cases h with
  | pure _ _ h => exact h
theorem node_pure {d : D} (h : isNode d = true) : ∀ {c ν F w v}, Den c ν F w v d → ∃ p k sp nm la ls tx v4 v5, d = .agg [.int .i64 p, .int .i64 k, .str sp, .str nm, .list la, .list ls, .str tx] ∧ v = .agg #[.int .i64 p, .int .i64 k, .string ⟨sp.toArray⟩, .string ⟨nm.toArray⟩, v4, v5, .string ⟨tx.toArray⟩] ∧
    Den0 F w v4 (.list la) ∧ Den0 F w v5 (.list ls) ∧ v4.oneCell' = true ∧ v5.oneCell' = true := by
  intro c ν F w v hd
  obtain ⟨p, k, sp, nm, la, ls, tx, rfl, _⟩ := isNode_inv h
  have key : ∀ vs : List Value, vs.length = 7 → (∀ (i : Nat) (v : Value) (x : D), vs[i]? = some v → [D.int .i64 p, .int .i64 k, .str sp, .str nm, .list la, .list ls, .str tx][i]? = some x → Den c ν F w v x) →
      ∃ v4 v5, vs.toArray = #[.int .i64 p, .int .i64 k, .string ⟨sp.toArray⟩, .string ⟨nm.toArray⟩, v4, v5, .string ⟨tx.toArray⟩] ∧ Den0 F w v4 (.list la) ∧ Den0 F w v5 (.list ls) := by
    intro vs hl hh
    match vs, hl with
    | [u0, u1, u2, u3, u4, u5, u6], _ =>
      have h0 := (hh 0 u0 _ rfl rfl).int_
      have h1 := (hh 1 u1 _ rfl rfl).int_
      have h2 := (hh 2 u2 _ rfl rfl).str_
      have h3 := (hh 3 u3 _ rfl rfl).str_
      have h4 := den_list0 (hh 4 u4 _ rfl rfl)
      have h5 := den_list0 (hh 5 u5 _ rfl rfl)
      have h6 := (hh 6 u6 _ rfl rfl).str_
      subst h0 h1 h2 h3 h6
      exact ⟨u4, u5, rfl, h4, h5⟩
  have one : ∀ {u : Value} {l : List D}, Den0 F w u (.list l) → u.oneCell' = true := by
    intro u l h
    cases h
    rfl
  cases hd with
  | pure _ _ hp =>
    cases hp with
    | agg vs cs h1 h2 h3 =>
      obtain ⟨v4, v5, e, h4, h5⟩ := key vs h1 fun i v d a b => .pure _ _ (h3 i v d a b)
      exact ⟨p, k, sp, nm, la, ls, tx, v4, v5, rfl, by rw [e], h4, h5, one h4, one h5⟩
  | agg vs cs h1 h2 h3 =>
    obtain ⟨v4, v5, e, h4, h5⟩ := key vs h1 h3
    exact ⟨p, k, sp, nm, la, ls, tx, v4, v5, rfl, by rw [e], h4, h5, one h4, one h5⟩
theorem node_den {F : Nat → Nat → Prop} {w : World} {p k : Int} {sp nm tx : List UInt8} {la ls : List D} {v4 v5 : Value} (h4 : Den0 F w v4 (.list la)) (h5 : Den0 F w v5 (.list ls)) (o4 : v4.oneCell' = true) (o5 : v5.oneCell' = true) :
    Den0 F w (.agg #[.int .i64 p, .int .i64 k, .string ⟨sp.toArray⟩, .string ⟨nm.toArray⟩, v4, v5, .string ⟨tx.toArray⟩]) (.agg [.int .i64 p, .int .i64 k, .str sp, .str nm, .list la, .list ls, .str tx]) := by
  refine Den0.agg [.int .i64 p, .int .i64 k, .string ⟨sp.toArray⟩, .string ⟨nm.toArray⟩, v4, v5, .string ⟨tx.toArray⟩] _ rfl ?_ ?_
  · intro u hu
    simp only [List.mem_cons, List.not_mem_nil, or_false] at hu
    rcases hu with rfl | rfl | rfl | rfl | rfl | rfl | rfl <;> first | rfl | exact o4 | exact o5
  · intro i v x hv hx
    match i with
    | 0 => simp at hv hx; subst hv; subst hx; exact .int _ _
    | 1 => simp at hv hx; subst hv; subst hx; exact .int _ _
    | 2 => simp at hv hx; subst hv; subst hx; exact .str _
    | 3 => simp at hv hx; subst hv; subst hx; exact .str _
    | 4 => simp at hv hx; subst hv; subst hx; exact h4
    | 5 => simp at hv hx; subst hv; subst hx; exact h5
    | 6 => simp at hv hx; subst hv; subst hx; exact .str _
    | i + 7 => simp at hv
def orExt (a b : Call) : Call := fun f args pbs => match a f args pbs with | some r => some r | none => b f args pbs
theorem orExt_ok {P : Program} [Gs] {a b : Call} (ha : CallOK P a) (hb : CallOK P b) : CallOK P (orExt a b) := by
  intro f args pbs d r pbs' h
  unfold orExt at h
  split at h
  · rename_i x hx
    injection h with h
    subst h
    exact ha f args pbs d r pbs' hx
  · exact hb f args pbs d r pbs' h
end Go.Av
namespace Go.Av
open Go.Proofs Go.RowKit Go.Proofs.YtaghfmgeccapbaaGreatDoor
variable [Rk]
def NodeR (cur : Array Value) (w : World) (i a m b : Nat) (e : D) : Prop :=
  ∃ p k sp nm la ls tx u4 u5 vs4 vs5, e = .agg [.int .i64 p, .int .i64 k, .str sp, .str nm, .list la, .list ls, .str tx] ∧
    (cur[i * 7]? = some (.int .i64 p) ∧ cur[i * 7 + 1]? = some (.int .i64 k) ∧ cur[i * 7 + 2]? = some (.string ⟨sp.toArray⟩) ∧ cur[i * 7 + 3]? = some (.string ⟨nm.toArray⟩) ∧ cur[i * 7 + 4]? = some u4 ∧ cur[i * 7 + 5]? = some u5 ∧ cur[i * 7 + 6]? = some (.string ⟨tx.toArray⟩)) ∧
    OwnG w a m 50 3 u4 la.length vs4 ∧ OwnG w m b 9 1 u5 ls.length vs5 ∧ Rd vs4 la ∧ Rd vs5 ls
def DocC (w : World) (lo hi : Nat) (cur : Array Value) (es : List D) (k : Nat) : Prop :=
  ∃ r m : Nat → Nat, lo ≤ r 0 ∧ r k ≤ hi ∧ (∀ i, i < k → r i ≤ m i ∧ m i ≤ r (i + 1)) ∧ ∀ i e, i < k → es[i]? = some e → NodeR cur w i (r i) (m i) (r (i + 1)) e
theorem NodeR.ge {cur : Array Value} {w w' : World} {i a m b : Nat} {e : D} (h : NodeR cur w i a m b e) (hg : Ge w w') : NodeR cur w' i a m b e := by
  obtain ⟨p, k, sp, nm, la, ls, tx, u4, u5, vs4, vs5, he, hc, h4, h5, r4, r5⟩ := h
  exact ⟨p, k, sp, nm, la, ls, tx, u4, u5, vs4, vs5, he, hc, h4.ge hg (Nat.le_refl _) (Nat.le_refl _), h5.ge hg (Nat.le_refl _) (Nat.le_refl _), r4, r5⟩
theorem NodeR.gb {cur : Array Value} {w w' : World} {i a m b A : Nat} {e : D} (h : NodeR cur w i a m b e) (hg : w.grownBy w' (some A)) (hA : A < a) (hm : a ≤ m) : NodeR cur w' i a m b e := by
  obtain ⟨p, k, sp, nm, la, ls, tx, u4, u5, vs4, vs5, he, hc, h4, h5, r4, r5⟩ := h
  exact ⟨p, k, sp, nm, la, ls, tx, u4, u5, vs4, vs5, he, hc, h4.gb hg hA (Nat.le_refl _) (Nat.le_refl _), h5.gb hg (by omega) (Nat.le_refl _) (Nat.le_refl _), r4, r5⟩
theorem NodeR.cells {cur cur' : Array Value} {w : World} {i a m b : Nat} {e : D} (h : NodeR cur w i a m b e) (hc' : ∀ j, j < 7 → cur'[i * 7 + j]? = cur[i * 7 + j]?) : NodeR cur' w i a m b e := by
  obtain ⟨p, k, sp, nm, la, ls, tx, u4, u5, vs4, vs5, he, ⟨c0, c1, c2, c3, c4, c5, c6⟩, h4, h5, r4, r5⟩ := h
  exact ⟨p, k, sp, nm, la, ls, tx, u4, u5, vs4, vs5, he, ⟨(hc' 0 (by decide)).trans c0, (hc' 1 (by decide)).trans c1, (hc' 2 (by decide)).trans c2, (hc' 3 (by decide)).trans c3, (hc' 4 (by decide)).trans c4, (hc' 5 (by decide)).trans c5, (hc' 6 (by decide)).trans c6⟩, h4, h5, r4, r5⟩
theorem DocC.zero (w : World) (lo : Nat) (cur : Array Value) (es : List D) : DocC w lo lo cur es 0 :=
  ⟨fun _ => lo, fun _ => lo, Nat.le_refl _, Nat.le_refl _, fun i h => absurd h (Nat.not_lt_zero i), fun i e h => absurd h (Nat.not_lt_zero i)⟩
theorem NodeR.mono {cur : Array Value} {w : World} {i a m b b' : Nat} {e : D} (h : NodeR cur w i a m b e) (hb : b ≤ b') : NodeR cur w i a m b' e := by
  obtain ⟨p, k, sp, nm, la, ls, tx, u4, u5, vs4, vs5, he, hc, h4, h5, r4, r5⟩ := h
  exact ⟨p, k, sp, nm, la, ls, tx, u4, u5, vs4, vs5, he, hc, h4, h5.ge (Below.refl _ _) (Nat.le_refl _) hb, r4, r5⟩
theorem DocC.step {w : World} {lo hi hi' m : Nat} {cur : Array Value} {es : List D} {k : Nat} {e : D} (h : DocC w lo hi cur es k) (he : es[k]? = some e) (hm : hi ≤ m ∧ m ≤ hi') (hn : NodeR cur w k hi m hi' e) : DocC w lo hi' cur es (k + 1) := by
  obtain ⟨r, ms, h1, h2, h3, h4⟩ := h
  obtain ⟨q, hq⟩ : ∃ q : Nat → Nat, q = fun i => if i < k then r i else if i = k then hi else hi' := ⟨_, rfl⟩
  have qlt : ∀ i, i < k → q i = r i := fun i hi => by rw [hq]; simp [hi]
  have qk : q k = hi := by rw [hq]; simp
  have qs : q (k + 1) = hi' := by rw [hq]; simp; omega
  have qn : ∀ i, i < k → r (i + 1) ≤ q (i + 1) := fun i hi => by
    by_cases h : i + 1 < k
    · rw [qlt _ h]; exact Nat.le_refl _
    · have e2 : i + 1 = k := by omega
      rw [e2, qk]; exact h2
  refine ⟨q, fun i => if i < k then ms i else m, ?_, by rw [qs]; exact Nat.le_refl _, ?_, ?_⟩
  · by_cases hk : 0 < k
    · rw [qlt 0 hk]; exact h1
    · have : k = 0 := by omega
      subst this
      rw [qk]; omega
  · intro i hi
    by_cases hk : i < k
    · have := h3 i hk
      have := qn i hk
      rw [qlt i hk]
      simp only [hk, if_true]
      omega
    · have e2 : i = k := by omega
      subst e2
      rw [qk, qs]
      simpa using hm
  · intro i x hi hx
    by_cases hk : i < k
    · rw [qlt i hk]
      simp only [hk, if_true]
      exact (h4 i x hk hx).mono (qn i hk)
    · have e2 : i = k := by omega
      subst e2
      rw [he] at hx
      obtain rfl := Option.some.inj hx
      rw [qk, qs]
      simpa using hn
theorem DocC.ge {w w' : World} {lo hi hi' : Nat} {cur : Array Value} {es : List D} {k : Nat} (h : DocC w lo hi cur es k) (hg : Ge w w') (hh : hi ≤ hi') : DocC w' lo hi' cur es k := by
  obtain ⟨r, m, h1, h2, h3, h4⟩ := h
  exact ⟨r, m, h1, by omega, h3, fun i e hi he => (h4 i e hi he).ge hg⟩
theorem DocC.lo_r {k : Nat} {r m : Nat → Nat} {lo : Nat} (h1 : lo ≤ r 0) (h3 : ∀ i, i < k → r i ≤ m i ∧ m i ≤ r (i + 1)) : ∀ i, i ≤ k → lo ≤ r i := by
  intro i
  induction i with
  | zero => intro _; exact h1
  | succ i ih => intro hi; have := ih (by omega); have := h3 i (by omega); omega
theorem DocC.gb {w w' : World} {lo hi : Nat} {cur : Array Value} {es : List D} {k A : Nat} (h : DocC w lo hi cur es k) (hg : w.grownBy w' (some A)) (hA : A < lo) : DocC w' lo hi cur es k := by
  obtain ⟨r, m, h1, h2, h3, h4⟩ := h
  exact ⟨r, m, h1, h2, h3, fun i e hi he => (h4 i e hi he).gb hg (by have := DocC.lo_r h1 h3 i (by omega); omega) (h3 i hi).1⟩
theorem DocC.cells {cur cur' : Array Value} {w : World} {lo hi : Nat} {es : List D} {k : Nat} (h : DocC w lo hi cur es k) (hc : ∀ j, j < k * 7 → cur'[j]? = cur[j]?) : DocC w lo hi cur' es k := by
  obtain ⟨r, m, h1, h2, h3, h4⟩ := h
  exact ⟨r, m, h1, h2, h3, fun i e hi he => (h4 i e hi he).cells (fun j hj => hc _ (by omega))⟩
end Go.Av
namespace Go.Av
open Go.Proofs Go.RowKit Go.Proofs.YtaghfmgeccapbaaGreatDoor
variable [Rk]
theorem node_all {F : Nat → Nat → Prop} {w : World} {a : Option Addr} {vs : List Value} {es : List D} (hes : ∀ e ∈ es, isNode e = true) (hvl : vs.length = es.length * 7) (hsl : Sl w w.heap.size a vs)
    (hx : ∀ (i : Nat) (v : Value) (x : D), vs[i]? = some v → (flat es)[i]? = some x → Den0 F w v x) {i : Nat} (hi : i < es.length) :
    ∃ b off p k sp nm la ls tx x4 c4 x5 c5, a = some ⟨b, off, none⟩ ∧ b < w.heap.size ∧ es.getD i .bad = .agg [.int .i64 p, .int .i64 k, .str sp, .str nm, .list la, .list ls, .str tx] ∧
      (w.cell? ⟨b, off + i * 7, none⟩ = some (.int .i64 p) ∧ w.cell? ⟨b, off + i * 7 + 1, none⟩ = some (.int .i64 k) ∧ w.cell? ⟨b, off + i * 7 + 2, none⟩ = some (.string ⟨sp.toArray⟩) ∧ w.cell? ⟨b, off + i * 7 + 3, none⟩ = some (.string ⟨nm.toArray⟩) ∧
      w.cell? ⟨b, off + i * 7 + 4, none⟩ = some (.slice x4 la.length c4) ∧ w.cell? ⟨b, off + i * 7 + 5, none⟩ = some (.slice x5 ls.length c5) ∧ w.cell? ⟨b, off + i * 7 + 6, none⟩ = some (.string ⟨tx.toArray⟩)) ∧
      Den0 F w (.slice x4 la.length c4) (.list la) ∧ Den0 F w (.slice x5 ls.length c5) (.list ls) ∧ (∀ e ∈ la, (dcells e).length = 3) ∧ (∀ e ∈ ls, (dcells e).length = 1) ∧ la.length ≤ 1000000 ∧ ls.length ≤ 1000000 := by
  have hei : es[i]? = some es[i] := List.getElem?_eq_getElem hi
  have hgd : es.getD i .bad = es[i] := by simp [List.getD, hei]
  obtain ⟨p, k, sp, nm, la, ls, tx, he, h4, h5, h6, h7⟩ := isNode_inv (hes es[i] (List.getElem_mem hi))
  rw [he] at hei
  obtain ⟨b, off, ha, hb, hc⟩ := hsl (by intro e; rw [e] at hvl; simp at hvl; omega)
  have key : ∀ j (x : D), j < 7 → (dcells (.agg [.int .i64 p, .int .i64 k, .str sp, .str nm, .list la, .list ls, .str tx]))[j]? = some x → ∃ u, w.cell? ⟨b, off + i * 7 + j, none⟩ = some u ∧ Den0 F w u x := by
    intro j x hj hxj
    have f := flat_at (isNode_len hes) hei j hj
    rw [hxj] at f
    have l : i * 7 + j < vs.length := by omega
    refine ⟨vs[i * 7 + j], ?_, hx _ _ _ (List.getElem?_eq_getElem l) f⟩
    rw [Nat.add_assoc]
    exact hc _ l
  obtain ⟨u0, g0, e0⟩ := key 0 _ (by decide) rfl
  obtain ⟨u1, g1, e1⟩ := key 1 _ (by decide) rfl
  obtain ⟨u2, g2, e2⟩ := key 2 _ (by decide) rfl
  obtain ⟨u3, g3, e3⟩ := key 3 _ (by decide) rfl
  obtain ⟨u4, g4, e4⟩ := key 4 _ (by decide) rfl
  obtain ⟨u5, g5, e5⟩ := key 5 _ (by decide) rfl
  obtain ⟨u6, g6, e6⟩ := key 6 _ (by decide) rfl
  have s4 : ∃ x c, u4 = .slice x la.length c := by
    cases e4 with
    | list a n c sz es vs h1 h2 h3 h4 h5 h6 h7 => exact ⟨a, c, by rw [h1]⟩
  have s5 : ∃ x c, u5 = .slice x ls.length c := by
    cases e5 with
    | list a n c sz es vs h1 h2 h3 h4 h5 h6 h7 => exact ⟨a, c, by rw [h1]⟩
  obtain ⟨x4, c4, rfl⟩ := s4
  obtain ⟨x5, c5, rfl⟩ := s5
  cases e0; cases e1; cases e2; cases e3; cases e6
  exact ⟨b, off, p, k, sp, nm, la, ls, tx, x4, c4, x5, c5, ha, hb, hgd.trans he, ⟨g0, g1, g2, g3, g4, g5, g6⟩, e4, e5, h4, h5, h6, h7⟩
end Go.Av
namespace Go.Av
open Go.Proofs Go.RowKit Go.Proofs.YtaghfmgeccapbaaGreatDoor
variable [Rk]
def DocR (w : World) (lo hi : Nat) (u : Value) (es : List D) : Prop :=
  ∃ g c cur, u = .slice (some ⟨g, 0, none⟩) es.length c ∧ es.length ≤ c ∧ c ≤ maxLen ∧ lo ≤ g ∧ w.heap[g]? = some (.cells cur 48 (0, 0)) ∧ es.length * 7 ≤ cur.size ∧ DocC w (g + 1) hi cur es es.length
theorem whole_new (es : List D) (F : Nat → Nat → Prop) (w : World) (v : Value) (hlt : Lt F w) (hd : Den0 F w v (.list es)) (hpl : ∀ p k sp nm la ls tx, D.agg [.int .i64 p, .int .i64 k, .str sp, .str nm, .list la, .list ls, .str tx] ∈ es → (∀ x ∈ flat la, noPtr x = true) ∧ ∀ x ∈ flat ls, noPtr x = true) (hs : ∀ e ∈ es, isNode e = true) (hL : es.length ≤ 1000000) :
    Calls Tryz.prog 24 #[v] w (fun e w' => ∃ u, e = .returned u ∧ Ge w w' ∧ DocR w' w.heap.size w'.heap.size u es) := by
  obtain ⟨a, c, vs, rfl, hc, hvl, hsl, h1, hx⟩ := list_sl hlt hd (isNode_len hs)
  obtain ⟨n, HN⟩ : ∃ n, Hid (n = es.length) := ⟨_, rfl⟩
  rw [← HN.out] at hvl hc ⊢
  have hnL : n ≤ 1000000 := by rw [HN.out]; exact hL
  go_enter Tryz.func24, Tryz.ntmps24
  go_wp2_with (refine make_full _ rfl (.tmp 7) (.tmp 7) 22 rfl (.agg #[.int .i64 0, .int .i64 0, .string ⟨#[]⟩, .string ⟨#[]⟩, .slice none 0 0, .slice none 0 0, .string ⟨#[]⟩]) ei22 (by kernel_rfl) w.heap.size .i64 .i64 n rfl rfl (by omega) (by simp only [maxLen]; omega) (Nat.le_refl _) ?_; intro w1 ho1 hg1 hb1)
  obtain ⟨g, Hg⟩ : ∃ z, z = w.heap.size := ⟨_, rfl⟩
  have HR : ∃ cur, w1.heap[g]? = some (.cells cur 48 (0, 0)) ∧ cur.size = n * 7 ∧ DocC w1 (g + 1) w1.heap.size cur es 0 := by
    rcases ho1 with ⟨hl, ⟨h, _⟩ | ⟨g', cap, cur, hv, _, hh, hc', _, hcs, _⟩⟩
    · cases h
    · simp only [Value.slice.injEq, Option.some.injEq, Addr.mk.injEq] at hv
      obtain ⟨⟨h1', _⟩, _, h2'⟩ := hv
      have hg2 : g = g' := by rw [Hg]; exact h1'
      have hgl : g' < w1.heap.size := (Array.getElem?_eq_some_iff.1 hh).1
      refine ⟨cur, by rw [hg2]; exact hh, by rw [hcs, h2'], fun _ => g + 1, fun _ => g + 1, Nat.le_refl _, by show g + 1 ≤ _; omega, fun i h => absurd h (Nat.not_lt_zero i), fun i e h => absurd h (Nat.not_lt_zero i)⟩
  rw [← Hg] at ho1 ⊢
  have hb0 : Ge w w1 := hb1
  have HG := Lib.hid Hg
  clear Hg
  clear ho1 hg1 hb1
  go_loopw [11] (fun v wr => ∃ k : Nat, v = .int .i64 k ∧ k ≤ n ∧ Ge w wr ∧ ∃ cur, wr.heap[g]? = some (.cells cur 48 (0, 0)) ∧ cur.size = n * 7 ∧ DocC wr (g + 1) wr.heap.size cur es k) (fun v _ => n - (intOf v).toNat)
  case atStart => exact ⟨0, rfl, Nat.zero_le _, hb0, HR⟩
  case round =>
    obtain ⟨k, rfl, hle, hG, cur, hh, hcs, hD⟩ := hrel
    by_cases hk : k = n
    · subst hk
      go_wp2_with fail
      go_ret
      exact ⟨_, rfl, hG, g, k, cur, by rw [← HN.out]; rfl, by rw [← HN.out]; exact Nat.le_refl _, by simp only [maxLen]; omega, Nat.le_of_eq HG.out.symm, hh, by rw [← HN.out, hcs]; exact Nat.le_refl _, HN.out ▸ hD⟩
    · have hlt2 : k < n := by omega
      obtain ⟨b, off, p, kk, sp, nm, la, ls, tx, x4, c4, x5, c5, rfl, hbw, hei, ⟨q0, q1, q2, q3, q4, q5, q6⟩, d4, d5, s4, s5, l4, l5⟩ := node_all hs (by rw [← HN.out]; exact hvl) hsl hx (i := k) (by rw [← HN.out]; exact hlt2)
      have r0 := (hG.cell (p := ⟨b, off + k * 7, none⟩) hbw).trans q0
      have r1 := (hG.cell (p := ⟨b, off + k * 7 + 1, none⟩) hbw).trans q1
      have r2 := (hG.cell (p := ⟨b, off + k * 7 + 2, none⟩) hbw).trans q2
      have r3 := (hG.cell (p := ⟨b, off + k * 7 + 3, none⟩) hbw).trans q3
      have r4 := (hG.cell (p := ⟨b, off + k * 7 + 4, none⟩) hbw).trans q4
      have r5 := (hG.cell (p := ⟨b, off + k * 7 + 5, none⟩) hbw).trans q5
      have r6 := (hG.cell (p := ⟨b, off + k * 7 + 6, none⟩) hbw).trans q6
      clear q0 q1 q2 q3 q4 q5 q6
      have hmem : es.getD k .bad ∈ es := by
        have hk' : k < es.length := by rw [← HN.out]; exact hlt2
        have : es.getD k .bad = es[k] := by simp [List.getD, hk']
        rw [this]
        exact List.getElem_mem hk'
      obtain ⟨hp4, hp5⟩ := hpl _ _ _ _ _ _ _ (hei ▸ hmem)
      have hB0 : Bk wr g 48 cur := hh
      have hgl : g < wr.heap.size := (Array.getElem?_eq_some_iff.1 hh).1
      go_wp2_with (go_at_call 39; refine (copied_own p kk ⟨sp.toArray⟩ ⟨nm.toArray⟩ ⟨tx.toArray⟩ (.slice x4 la.length c4) (.slice x5 ls.length c5) la ls F _ (lt_ge hlt (Ge.tr hG ((Below.refl _ _).alloc (Nat.le_refl _) _))) hp4 hp5 (den_ge d4 hlt (Ge.tr hG ((Below.refl _ _).alloc (Nat.le_refl _) _))) (den_ge d5 hlt (Ge.tr hG ((Below.refl _ _).alloc (Nat.le_refl _) _))) s4 s5 (by omega) (by omega) rfl rfl).mono ?_; rintro e w2 ⟨u4, u5, m, vs4, vs5, rfl, hb2, hm, hm', o4, o5, rd4, rd5⟩; obtain ⟨A4, C4, rfl, _⟩ := id o4; obtain ⟨A5, C5, rfl, _⟩ := id o5; have B2 : Bk w2 g 48 cur := Bk.below (hB0.alloc _) hb2 (by simp; omega); have c0 := (B2.cell (k * 7)).trans (Array.getElem?_eq_getElem (by omega)); have c1 := (B2.cell (k * 7 + 1)).trans (Array.getElem?_eq_getElem (by omega)); have c2 := (B2.cell (k * 7 + 2)).trans (Array.getElem?_eq_getElem (by omega)); have c3 := (B2.cell (k * 7 + 3)).trans (Array.getElem?_eq_getElem (by omega)); have c4' := (B2.cell (k * 7 + 4)).trans (Array.getElem?_eq_getElem (by omega)); have c5' := (B2.cell (k * 7 + 5)).trans (Array.getElem?_eq_getElem (by omega)); have c6 := (B2.cell (k * 7 + 6)).trans (Array.getElem?_eq_getElem (by omega)); have f0 := B2.free (k * 7); have f1 := B2.free (k * 7 + 1); have f2 := B2.free (k * 7 + 2); have f3 := B2.free (k * 7 + 3); have f4 := B2.free (k * 7 + 4); have f5 := B2.free (k * 7 + 5); have f6 := B2.free (k * 7 + 6))
      have hgw : w.heap.size ≤ g := Nat.le_of_eq HG.out.symm
      have G2 : Ge w w2 := Ge.tr (Ge.tr hG ((Below.refl _ _).alloc (Nat.le_refl _) _)) hb2
      refine ⟨⟨k + 1, by simp, by omega, ge_put (ge_put (ge_put (ge_put (ge_put (ge_put (ge_put G2 hgw _) hgw _) hgw _) hgw _) hgw _) hgw _) hgw _, _, ((((((B2.put (k * 7) _).put (k * 7 + 1) _).put (k * 7 + 2) _).put (k * 7 + 3) _).put (k * 7 + 4) _).put (k * 7 + 5) _).put (k * 7 + 6) _, by simp [hcs], ?_⟩, ?_⟩
      · have hz : (((((((w2.setCell ⟨g, k * 7, none⟩ (.int .i64 p)).setCell ⟨g, k * 7 + 1, none⟩ (.int .i64 kk)).setCell ⟨g, k * 7 + 2, none⟩ (.string ⟨sp.toArray⟩)).setCell ⟨g, k * 7 + 3, none⟩ (.string ⟨nm.toArray⟩)).setCell ⟨g, k * 7 + 4, none⟩ (.slice A4 la.length C4)).setCell ⟨g, k * 7 + 5, none⟩ (.slice A5 ls.length C5)).setCell ⟨g, k * 7 + 6, none⟩ (.string ⟨tx.toArray⟩)).heap.size = w2.heap.size := by simp
        have GZ := grown_put (grown_put (grown_put (grown_put (grown_put (grown_put (grown_put (grown_refl w2 (some g)) (p := ⟨g, k * 7, none⟩) rfl (.int .i64 p)) (p := ⟨g, k * 7 + 1, none⟩) rfl (.int .i64 kk)) (p := ⟨g, k * 7 + 2, none⟩) rfl (.string ⟨sp.toArray⟩)) (p := ⟨g, k * 7 + 3, none⟩) rfl (.string ⟨nm.toArray⟩)) (p := ⟨g, k * 7 + 4, none⟩) rfl (.slice A4 la.length C4)) (p := ⟨g, k * 7 + 5, none⟩) rfl (.slice A5 ls.length C5)) (p := ⟨g, k * 7 + 6, none⟩) rfl (.string ⟨tx.toArray⟩)
        have hk' : k < es.length := by rw [← HN.out]; exact hlt2
        have hek : es[k]? = some (.agg [.int .i64 p, .int .i64 kk, .str sp, .str nm, .list la, .list ls, .str tx]) := by
          have : es.getD k .bad = es[k] := by simp [List.getD, hk']
          rw [List.getElem?_eq_getElem hk', ← this, hei]
        have D1 := ((hD.ge ((Below.refl _ _).alloc (Nat.le_refl _) _) (hi' := (wr.alloc (.cells #[.int .i64 p, .int .i64 kk, .string ⟨sp.toArray⟩, .string ⟨nm.toArray⟩, .slice x4 la.length c4, .slice x5 ls.length c5, .string ⟨tx.toArray⟩] 48)).heap.size) (by simp)).ge hb2 (Nat.le_refl _)).gb GZ (by omega)
        rw [hz]
        refine DocC.step (D1.cells ?_) hek ⟨hm, hm'⟩ ?_
        · intro j hj
          simp only [Array.getElem?_setIfInBounds]
          repeat rw [if_neg (by omega)]
        · refine ⟨p, kk, sp, nm, la, ls, tx, .slice A4 la.length C4, .slice A5 ls.length C5, vs4, vs5, rfl, ?_, o4.gb GZ (by simp; omega) (Nat.le_refl _) (Nat.le_refl _), o5.gb GZ (by simp at hm; omega) (Nat.le_refl _) (Nat.le_refl _), rd4, rd5⟩
          refine ⟨?_, ?_, ?_, ?_, ?_, ?_, ?_⟩ <;> (simp [Array.getElem?_setIfInBounds, hcs]; omega)
      · simp [intOf]; omega
end Go.Av
namespace Go.Av
open Go.Proofs Go.RowKit Go.Lib Go.Proofs.YtaghfmgeccapbaaGreatDoor
variable [Rk]
theorem run_clear_el {P : Program} (w : World) (t e ty : TypeId) (z : Value) (zs : List Value) (ht : P.underlying t = some (.slice e)) (hv : ∀ w, (zeroValue e).run P w = .ok z w) (hz : z.cells = zs.toArray) (h1 : ∀ v ∈ zs, v.oneCell' = true) (b o c : Nat)
    (hc : ∀ j, j < zs.length → (w.cell? ⟨b, o + j, none⟩).isSome = true) (hf : ∀ j, j < zs.length → w.frozen? ⟨b, o + j, none⟩ = false) :
    (Builtin.clear_ #[t] ty #[.slice (some ⟨b, o, none⟩) 1 c]).run P w = .ok (.tuple #[]) (w.setCells b o zs) := by
  have hzc : (Builtin.zeroCells z.cells 1).toList = zs := by
    rw [hz]
    simp [Builtin.zeroCells]
    apply List.ext_getElem
    · simp
    · intro i h1 h2
      have h3 : i % zs.length = i := Nat.mod_eq_of_lt h2
      simp [h3, h2]
  have hst := run_storeCells_cells (P := P) b o zs 0 w (by simpa using hc) (by simpa using hf) h1
  simp only [Nat.add_zero] at hst
  simp [Builtin.clear_, run_underlying ht, hv, hzc, hst]
set_option maxHeartbeats 4000000 in
theorem del3_any (b off cap i j n : Nat) (cs : List Value) (w : World) (hn : cs.length = n * 3) (hc : ∀ k u, cs[k]? = some u → w.cell? ⟨b, off + k, none⟩ = some u ∧ w.frozen? ⟨b, off + k, none⟩ = false ∧ u.oneCell' = true) (hcap : n ≤ cap) (hm : cap ≤ 9223372036854775807) (hi : i < n) (hj : j = i + 1) :
    Calls Tryz.prog 44 #[.slice (some ⟨b, off, none⟩) n cap, .int .i64 i, .int .i64 (j : Nat)] w fun e w' => e = .returned (.slice (some ⟨b, off, none⟩) (n - 1) cap) ∧
      w' = (w.drew.setCells b (off + i * 3) (cs.drop (j * 3))).setCells b (off + (n - 1) * 3) [.string ⟨#[]⟩, .string ⟨#[]⟩, .string ⟨#[]⟩] := by
  obtain ⟨i0, _, t25, hi0, _, hz1, _⟩ := ei23
  obtain ⟨news, hnews⟩ : ∃ news, news = cs.drop (j * 3) := ⟨_, rfl⟩
  have hlen : news.length = (n - j) * 3 := by rw [hnews, List.length_drop, hn, Nat.sub_mul]
  obtain ⟨A, hA, hsrc⟩ : ∃ A : Addr, (if cap = j then some (⟨b, off, none⟩ : Addr) else some ⟨b, off + j * 3, none⟩) = some A ∧ Hid (∀ t u, news[t]? = some u → w.drew.cell? (A.add t) = some u) := by
    by_cases h : cap = j
    · refine ⟨⟨b, off, none⟩, by simp [h], fun t u hu => ?_⟩
      have h0 : news.length = 0 := by rw [hlen, show n - j = 0 by omega, Nat.zero_mul]
      rw [List.length_eq_zero_iff.1 h0] at hu
      simp at hu
    · refine ⟨⟨b, off + j * 3, none⟩, by simp [h], fun t u hu => ?_⟩
      rw [hnews, List.getElem?_drop] at hu
      rw [Addr.add_lit, Nat.add_assoc]
      exact (hc _ _ hu).1
  have s1 : Hid (news.length = (n - j) * 3) := hlen
  have s2 : Hid (∀ u ∈ news, u.oneCell' = true) := by
    intro u hu
    rw [hnews] at hu
    obtain ⟨k, hk⟩ := List.getElem?_of_mem hu
    rw [List.getElem?_drop] at hk
    exact (hc _ _ hk).2.2
  have s3 : Hid (∀ t, t < news.length → (w.drew.cell? ⟨b, off + i * 3 + t, none⟩).isSome = true ∧ w.drew.frozen? ⟨b, off + i * 3 + t, none⟩ = false) := by
    intro t ht
    rw [hlen] at ht
    subst hj
    rw [Nat.add_assoc]
    have hk : i * 3 + t < cs.length := by omega
    obtain ⟨h1, h2, _⟩ := hc (i * 3 + t) _ (List.getElem?_eq_getElem hk)
    exact ⟨by show (w.cell? _).isSome = true; rw [h1]; rfl, h2⟩
  obtain ⟨W1, hW1⟩ : ∃ W1, W1 = w.drew.setCells b (off + i * 3) news := ⟨_, rfl⟩
  have hW : Hid (W1 = w.drew.setCells b (off + i * 3) news) := hW1
  have hcl : ∀ ty, (Builtin.clear_ #[46] ty #[.slice (some ⟨b, off + (i + (n - j)) * 3, none⟩) (n - (i + (n - j))) (cap - (i + (n - j)))]).run Tryz.prog W1 = .ok (.tuple #[]) (W1.setCells b (off + (i + (n - j)) * 3) [.string ⟨#[]⟩, .string ⟨#[]⟩, .string ⟨#[]⟩]) := by
    intro ty
    rw [show n - (i + (n - j)) = 1 by omega]
    have hcell : ∀ k, k < 3 → (W1.cell? ⟨b, off + (i + (n - j)) * 3 + k, none⟩).isSome = true ∧ W1.frozen? ⟨b, off + (i + (n - j)) * 3 + k, none⟩ = false := by
      intro k hk
      have hk' : (i + (n - j)) * 3 + k < cs.length := by omega
      obtain ⟨q1, q2, _⟩ := hc _ _ (List.getElem?_eq_getElem hk')
      rw [Nat.add_assoc]
      refine ⟨?_, ?_⟩
      · rw [hW1]
        exact isSome_setCells b news _ w.drew _ (by show (w.cell? _).isSome = true; rw [q1]; rfl)
      · rw [hW1, World.frozen?_setCells]
        exact q2
    exact run_clear_el W1 46 50 ty (.agg #[.string ⟨#[]⟩, .string ⟨#[]⟩, .string ⟨#[]⟩]) [.string ⟨#[]⟩, .string ⟨#[]⟩, .string ⟨#[]⟩] t25 (fun w => by kernel_rfl) rfl (by simp [Value.oneCell']) b _ _ (fun k hk => (hcell k hk).1) (fun k hk => (hcell k hk).2)
  have hcn : ¬ cap = i + (n - j) := by omega
  have hic : i ≤ cap := by omega
  have hjc : j ≤ cap := by omega
  have hjn : j ≤ n := by omega
  have hin : i ≤ n := by omega
  have hij : i ≤ j := by omega
  have heq : ((i : Int) == (j : Int)) = false := beq_false_of_ne (by omega)
  have hni : ¬ n = i := by omega
  have hJ : Hid (j = i + 1) := hj
  have hI : Hid (i < n) := hi
  have hWW : Hid (W1 = w.drew.setCells b (off + i * 3) news) := hW1
  have hN : Hid (news = cs.drop (j * 3)) := hnews
  clear hj hi hW1 hnews hlen hc hn
  go_enter Tryz.func44, Tryz.ntmps44
  go_wp2_with fail
  go_region_law (refine step_append_room rfl (.tmp 22) (.tmp 25) 46 rfl 50 i0 3 t25 hi0 hz1 b off i cap (by simp [Act.eval, Act.put]) A (n - j) (cap - j) news (by simp [Act.eval, Act.put]) s1.out hsrc.out s2.out (by omega) s3.out ?_; rw [← hW.out])
  go_wp2
  go_ret
  have e1 : i + (n - j) = n - 1 := by have := hJ.out; have := hI.out; omega
  refine ⟨by rw [e1]; rfl, ?_⟩
  rw [hW.out, hN.out, e1]
end Go.Av
namespace Go.Av
open Go.Proofs Go.RowKit Go.Lib Go.Proofs.YtaghfmgeccapbaaGreatDoor
variable [Rk]
set_option maxHeartbeats 4000000 in
theorem del7_any (b off cap i j n : Nat) (cs : List Value) (w : World) (hn : cs.length = n * 7) (hc : ∀ k u, cs[k]? = some u → w.cell? ⟨b, off + k, none⟩ = some u ∧ w.frozen? ⟨b, off + k, none⟩ = false ∧ u.oneCell' = true) (hcap : n ≤ cap) (hm : cap ≤ 9223372036854775807) (hi : i < n) (hj : j = i + 1) :
    Calls Tryz.prog 63 #[.slice (some ⟨b, off, none⟩) n cap, .int .i64 i, .int .i64 (j : Nat)] w fun e w' => e = .returned (.slice (some ⟨b, off, none⟩) (n - 1) cap) ∧
      w' = (w.drew.setCells b (off + i * 7) (cs.drop (j * 7))).setCells b (off + (n - 1) * 7) [.int .i64 0, .int .i64 0, .string ⟨#[]⟩, .string ⟨#[]⟩, .slice none 0 0, .slice none 0 0, .string ⟨#[]⟩] := by
  obtain ⟨i0, _, tT, hi0, _, hz1, _⟩ := ei22
  obtain ⟨news, hnews⟩ : ∃ news, news = cs.drop (j * 7) := ⟨_, rfl⟩
  have hlen : news.length = (n - j) * 7 := by rw [hnews, List.length_drop, hn, Nat.sub_mul]
  obtain ⟨A, hA, hsrc⟩ : ∃ A : Addr, (if cap = j then some (⟨b, off, none⟩ : Addr) else some ⟨b, off + j * 7, none⟩) = some A ∧ Hid (∀ t u, news[t]? = some u → w.drew.cell? (A.add t) = some u) := by
    by_cases h : cap = j
    · refine ⟨⟨b, off, none⟩, by simp [h], fun t u hu => ?_⟩
      have h0 : news.length = 0 := by rw [hlen, show n - j = 0 by omega, Nat.zero_mul]
      rw [List.length_eq_zero_iff.1 h0] at hu
      simp at hu
    · refine ⟨⟨b, off + j * 7, none⟩, by simp [h], fun t u hu => ?_⟩
      rw [hnews, List.getElem?_drop] at hu
      rw [Addr.add_lit, Nat.add_assoc]
      exact (hc _ _ hu).1
  have s1 : Hid (news.length = (n - j) * 7) := hlen
  have s2 : Hid (∀ u ∈ news, u.oneCell' = true) := by
    intro u hu
    rw [hnews] at hu
    obtain ⟨k, hk⟩ := List.getElem?_of_mem hu
    rw [List.getElem?_drop] at hk
    exact (hc _ _ hk).2.2
  have s3 : Hid (∀ t, t < news.length → (w.drew.cell? ⟨b, off + i * 7 + t, none⟩).isSome = true ∧ w.drew.frozen? ⟨b, off + i * 7 + t, none⟩ = false) := by
    intro t ht
    rw [hlen] at ht
    subst hj
    rw [Nat.add_assoc]
    have hk : i * 7 + t < cs.length := by omega
    obtain ⟨h1, h2, _⟩ := hc (i * 7 + t) _ (List.getElem?_eq_getElem hk)
    exact ⟨by show (w.cell? _).isSome = true; rw [h1]; rfl, h2⟩
  obtain ⟨W1, hW1⟩ : ∃ W1, W1 = w.drew.setCells b (off + i * 7) news := ⟨_, rfl⟩
  have hW : Hid (W1 = w.drew.setCells b (off + i * 7) news) := hW1
  have hcl : ∀ ty, (Builtin.clear_ #[22] ty #[.slice (some ⟨b, off + (i + (n - j)) * 7, none⟩) (n - (i + (n - j))) (cap - (i + (n - j)))]).run Tryz.prog W1 = .ok (.tuple #[]) (W1.setCells b (off + (i + (n - j)) * 7) [.int .i64 0, .int .i64 0, .string ⟨#[]⟩, .string ⟨#[]⟩, .slice none 0 0, .slice none 0 0, .string ⟨#[]⟩]) := by
    intro ty
    rw [show n - (i + (n - j)) = 1 by omega]
    have hcell : ∀ k, k < 7 → (W1.cell? ⟨b, off + (i + (n - j)) * 7 + k, none⟩).isSome = true ∧ W1.frozen? ⟨b, off + (i + (n - j)) * 7 + k, none⟩ = false := by
      intro k hk
      have hk' : (i + (n - j)) * 7 + k < cs.length := by omega
      obtain ⟨q1, q2, _⟩ := hc _ _ (List.getElem?_eq_getElem hk')
      rw [Nat.add_assoc]
      refine ⟨?_, ?_⟩
      · rw [hW1]
        exact isSome_setCells b news _ w.drew _ (by show (w.cell? _).isSome = true; rw [q1]; rfl)
      · rw [hW1, World.frozen?_setCells]
        exact q2
    exact run_clear_el W1 22 48 ty (.agg #[.int .i64 0, .int .i64 0, .string ⟨#[]⟩, .string ⟨#[]⟩, .slice none 0 0, .slice none 0 0, .string ⟨#[]⟩]) [.int .i64 0, .int .i64 0, .string ⟨#[]⟩, .string ⟨#[]⟩, .slice none 0 0, .slice none 0 0, .string ⟨#[]⟩] tT (fun w => by kernel_rfl) rfl (by simp [Value.oneCell']) b _ _ (fun k hk => (hcell k hk).1) (fun k hk => (hcell k hk).2)
  have hcn : ¬ cap = i + (n - j) := by omega
  have hic : i ≤ cap := by omega
  have hjc : j ≤ cap := by omega
  have hjn : j ≤ n := by omega
  have hin : i ≤ n := by omega
  have hij : i ≤ j := by omega
  have heq : ((i : Int) == (j : Int)) = false := beq_false_of_ne (by omega)
  have hni : ¬ n = i := by omega
  have hJ : Hid (j = i + 1) := hj
  have hI : Hid (i < n) := hi
  have hWW : Hid (W1 = w.drew.setCells b (off + i * 7) news) := hW1
  have hN : Hid (news = cs.drop (j * 7)) := hnews
  clear hj hi hW1 hnews hlen hc hn
  go_enter Tryz.func63, Tryz.ntmps63
  go_wp2_with fail
  go_region_law (refine step_append_room rfl (.tmp 22) (.tmp 25) 22 rfl 48 i0 7 tT hi0 hz1 b off i cap (by simp [Act.eval, Act.put]) A (n - j) (cap - j) news (by simp [Act.eval, Act.put]) s1.out hsrc.out s2.out (by omega) s3.out ?_; rw [← hW.out])
  go_wp2
  go_ret
  have e1 : i + (n - j) = n - 1 := by have := hJ.out; have := hI.out; omega
  refine ⟨by rw [e1]; rfl, ?_⟩
  rw [hW.out, hN.out, e1]
end Go.Av
namespace Go.Av
open Go.Proofs Go.RowKit Go.Lib Go.Proofs.YtaghfmgeccapbaaGreatDoor
variable [Rk]
set_option maxHeartbeats 4000000 in
theorem del1_any (b off cap i j n : Nat) (cs : List Value) (w : World) (hn : cs.length = n) (hc : ∀ k u, cs[k]? = some u → w.cell? ⟨b, off + k, none⟩ = some u ∧ w.frozen? ⟨b, off + k, none⟩ = false ∧ u.oneCell' = true) (hcap : n ≤ cap) (hm : cap ≤ 9223372036854775807) (hi : i < n) (hj : j = i + 1) :
    Calls Tryz.prog 45 #[.slice (some ⟨b, off, none⟩) n cap, .int .i64 i, .int .i64 (j : Nat)] w fun e w' => e = .returned (.slice (some ⟨b, off, none⟩) (n - 1) cap) ∧
      w' = (w.drew.setCells b (off + i) (cs.drop (j))).setCells b (off + (n - 1)) [.string ⟨#[]⟩] := by
  obtain ⟨i0, _, tT, hi0, _, hz1, _⟩ := ei24
  obtain ⟨news, hnews⟩ : ∃ news, news = cs.drop (j) := ⟨_, rfl⟩
  have hlen : news.length = (n - j) := by rw [hnews, List.length_drop, hn]
  obtain ⟨A, hA, hsrc⟩ : ∃ A : Addr, (if cap = j then some (⟨b, off, none⟩ : Addr) else some ⟨b, off + j, none⟩) = some A ∧ Hid (∀ t u, news[t]? = some u → w.drew.cell? (A.add t) = some u) := by
    by_cases h : cap = j
    · refine ⟨⟨b, off, none⟩, by simp [h], fun t u hu => ?_⟩
      have h0 : news.length = 0 := by rw [hlen]; omega
      rw [List.length_eq_zero_iff.1 h0] at hu
      simp at hu
    · refine ⟨⟨b, off + j, none⟩, by simp [h], fun t u hu => ?_⟩
      rw [hnews, List.getElem?_drop] at hu
      rw [Addr.add_lit, Nat.add_assoc]
      exact (hc _ _ hu).1
  have s1 : Hid (news.length = (n - j)) := hlen
  have s2 : Hid (∀ u ∈ news, u.oneCell' = true) := by
    intro u hu
    rw [hnews] at hu
    obtain ⟨k, hk⟩ := List.getElem?_of_mem hu
    rw [List.getElem?_drop] at hk
    exact (hc _ _ hk).2.2
  have s3 : Hid (∀ t, t < news.length → (w.drew.cell? ⟨b, off + i + t, none⟩).isSome = true ∧ w.drew.frozen? ⟨b, off + i + t, none⟩ = false) := by
    intro t ht
    rw [hlen] at ht
    subst hj
    rw [Nat.add_assoc]
    have hk : i + t < cs.length := by omega
    obtain ⟨h1, h2, _⟩ := hc (i + t) _ (List.getElem?_eq_getElem hk)
    exact ⟨by show (w.cell? _).isSome = true; rw [h1]; rfl, h2⟩
  obtain ⟨W1, hW1⟩ : ∃ W1, W1 = w.drew.setCells b (off + i) news := ⟨_, rfl⟩
  have hW : Hid (W1 = w.drew.setCells b (off + i) news) := hW1
  have hcl : ∀ ty, (Builtin.clear_ #[24] ty #[.slice (some ⟨b, off + (i + (n - j)), none⟩) (n - (i + (n - j))) (cap - (i + (n - j)))]).run Tryz.prog W1 = .ok (.tuple #[]) (W1.setCells b (off + (i + (n - j))) [.string ⟨#[]⟩]) := by
    intro ty
    rw [show n - (i + (n - j)) = 1 by omega]
    have hcell : ∀ k, k < 1 → (W1.cell? ⟨b, off + (i + (n - j)) + k, none⟩).isSome = true ∧ W1.frozen? ⟨b, off + (i + (n - j)) + k, none⟩ = false := by
      intro k hk
      have hk' : (i + (n - j)) + k < cs.length := by omega
      obtain ⟨q1, q2, _⟩ := hc _ _ (List.getElem?_eq_getElem hk')
      rw [Nat.add_assoc]
      refine ⟨?_, ?_⟩
      · rw [hW1]
        exact isSome_setCells b news _ w.drew _ (by show (w.cell? _).isSome = true; rw [q1]; rfl)
      · rw [hW1, World.frozen?_setCells]
        exact q2
    exact run_clear_el W1 24 9 ty (.string ⟨#[]⟩) [.string ⟨#[]⟩] tT (fun w => by kernel_rfl) rfl (by simp [Value.oneCell']) b _ _ (fun k hk => (hcell k hk).1) (fun k hk => (hcell k hk).2)
  have hcn : ¬ cap = i + (n - j) := by omega
  have hic : i ≤ cap := by omega
  have hjc : j ≤ cap := by omega
  have hjn : j ≤ n := by omega
  have hin : i ≤ n := by omega
  have hij : i ≤ j := by omega
  have heq : ((i : Int) == (j : Int)) = false := beq_false_of_ne (by omega)
  have hni : ¬ n = i := by omega
  have hJ : Hid (j = i + 1) := hj
  have hI : Hid (i < n) := hi
  have hWW : Hid (W1 = w.drew.setCells b (off + i) news) := hW1
  have hN : Hid (news = cs.drop (j)) := hnews
  clear hj hi hW1 hnews hlen hc hn
  go_enter Tryz.func45, Tryz.ntmps45
  go_wp2_with fail
  go_region_law (refine step_append_room rfl (.tmp 22) (.tmp 25) 24 rfl 9 i0 1 tT hi0 hz1 b off i cap (by simp [Act.eval, Act.put]) A (n - j) (cap - j) news (by simp [Act.eval, Act.put]) (by rw [Nat.mul_one]; exact s1.out) hsrc.out s2.out (by omega) (by rw [Nat.mul_one]; exact s3.out) ?_; rw [Nat.mul_one, ← hW.out])
  go_wp2
  go_ret
  have e1 : i + (n - j) = n - 1 := by have := hJ.out; have := hI.out; omega
  refine ⟨by rw [e1]; rfl, ?_⟩
  rw [hW.out, hN.out, e1]
end Go.Av
namespace Go.Av
open Go.Proofs Go.RowKit Go.Proofs.YtaghfmgeccapbaaGreatDoor
variable [Rk]
theorem bk_puts {g : Nat} {t : TypeId} : ∀ (vs : List Value) (o : Nat) {w : World} {cs : Array Value}, Bk w g t cs →
    ∃ cs', Bk (w.setCells g o vs) g t cs' ∧ cs'.size = cs.size ∧ w.grownBy (w.setCells g o vs) (some g) ∧ (w.setCells g o vs).heap.size = w.heap.size ∧
      ∀ j, j < cs.size → cs'[j]? = if o ≤ j ∧ j < o + vs.length then vs[j - o]? else cs[j]?
  | [], o, w, cs, h => ⟨cs, h, rfl, grown_refl _ _, rfl, fun j hj => by simp; omega⟩
  | v :: vs, o, w, cs, h => by
    obtain ⟨cs', h1, h2, h3, h4, h5⟩ := bk_puts vs (o + 1) (h.put o v)
    have hg := grown_put (grown_refl w (some g)) (p := ⟨g, o, none⟩) rfl v
    refine ⟨cs', h1, by rw [h2]; simp, ⟨h3.os.trans hg.os, h3.tape.trans hg.tape, h3.output.trans hg.output, Nat.le_trans hg.size h3.size, fun k hk hn => (h3.block k (Nat.lt_of_lt_of_le hk hg.size) hn).trans (hg.block k hk hn)⟩, by show ((w.setCell ⟨g, o, none⟩ v).setCells g (o + 1) vs).heap.size = _; rw [h4]; simp, fun j hj => ?_⟩
    rw [h5 j (by simpa using hj)]
    by_cases h6 : o + 1 ≤ j ∧ j < o + 1 + vs.length
    · have h7 : o ≤ j ∧ j < o + (v :: vs).length := ⟨by omega, by simp; omega⟩
      rw [if_pos h6, if_pos h7, show j - o = (j - (o + 1)) + 1 by omega]
      rfl
    · rw [if_neg h6]
      by_cases h8 : j = o
      · subst h8
        rw [if_pos ⟨Nat.le_refl _, by simp⟩, Array.getElem?_setIfInBounds]
        simp [hj]
      · have h7 : ¬ (o ≤ j ∧ j < o + (v :: vs).length) := by
          rintro ⟨a, b⟩
          simp at b
          omega
        rw [if_neg h7, Array.getElem?_setIfInBounds, if_neg (by omega)]
def cutC (sz i : Nat) (xs : List Value) : List Value := xs.take (i * sz) ++ xs.drop ((i + 1) * sz)
theorem cutC_len {sz i n : Nat} {xs : List Value} (h : xs.length = n * sz) (hi : i < n) : (cutC sz i xs).length = (n - 1) * sz := by
  obtain ⟨k, rfl⟩ : ∃ k, n = i + 1 + k := ⟨n - (i + 1), by omega⟩
  have e : (i + 1 + k - 1) * sz = i * sz + k * sz := by rw [← Nat.add_mul]; congr 1; omega
  simp only [cutC, List.length_append, List.length_take, List.length_drop, h, e]
  have e1 : (i + 1 + k) * sz = i * sz + sz + k * sz := by rw [Nat.add_mul, Nat.add_mul, Nat.one_mul]
  have e2 : (i + 1) * sz = i * sz + sz := by rw [Nat.add_mul, Nat.one_mul]
  omega
theorem del_left {w : World} {b i n sz : Nat} {t : TypeId} {cur : Array Value} {xs zs : List Value} (h : Bk w b t cur) (hx : xs.length = n * sz) (hc : n * sz ≤ cur.size) (ht : cur.toList.take (n * sz) = xs) (hi : i < n) (hz : zs.length = sz) :
    ∃ cur', Bk ((w.drew.setCells b (0 + i * sz) (xs.drop ((i + 1) * sz))).setCells b (0 + (n - 1) * sz) zs) b t cur' ∧ cur'.size = cur.size ∧ w.grownBy ((w.drew.setCells b (0 + i * sz) (xs.drop ((i + 1) * sz))).setCells b (0 + (n - 1) * sz) zs) (some b) ∧
      ((w.drew.setCells b (0 + i * sz) (xs.drop ((i + 1) * sz))).setCells b (0 + (n - 1) * sz) zs).heap.size = w.heap.size ∧ cur'.toList.take ((n - 1) * sz) = cutC sz i xs := by
  obtain ⟨c1, a1, a2, a3, a4, a5⟩ := bk_puts (xs.drop ((i + 1) * sz)) (0 + i * sz) (w := w.drew) h
  obtain ⟨c2, b1, b2, b3, b4, b5⟩ := bk_puts zs (0 + (n - 1) * sz) a1
  refine ⟨c2, b1, b2.trans a2, ⟨b3.os.trans a3.os, b3.tape.trans a3.tape, b3.output.trans a3.output, Nat.le_trans a3.size b3.size, fun k hk hn => (b3.block k (Nat.lt_of_lt_of_le hk a3.size) hn).trans (a3.block k hk hn)⟩, b4.trans a4, ?_⟩
  have hl := cutC_len hx hi
  obtain ⟨k, rfl⟩ : ∃ k, n = i + 1 + k := ⟨n - (i + 1), by omega⟩
  have e : (i + 1 + k - 1) * sz = i * sz + k * sz := by rw [← Nat.add_mul]; congr 1; omega
  have e1 : (i + 1 + k) * sz = i * sz + sz + k * sz := by rw [Nat.add_mul, Nat.add_mul, Nat.one_mul]
  have e2 : (i + 1) * sz = i * sz + sz := by rw [Nat.add_mul, Nat.one_mul]
  rw [e] at hl b5 ⊢
  rw [e1] at hx hc ht
  rw [e2] at a5
  apply List.ext_getElem?
  intro j
  by_cases hj : j < i * sz + k * sz
  · have hj' : j < cur.size := by omega
    rw [List.getElem?_take, if_pos hj, Array.getElem?_toList, b5 j (by omega), if_neg (by omega), a5 j hj']
    have hcur : ∀ m, m < i * sz + sz + k * sz → cur[m]? = xs[m]? := fun m hm => by
      rw [← ht, List.getElem?_take, if_pos hm, Array.getElem?_toList]
    unfold cutC
    rw [e2]
    by_cases h6 : j < i * sz
    · rw [if_neg (by omega), List.getElem?_append_left (by simp; omega), List.getElem?_take, if_pos h6]
      exact hcur j (by omega)
    · rw [if_pos ⟨by omega, by simp; omega⟩, List.getElem?_append_right (by simp; omega)]
      congr 1
      simp
      omega
  · rw [List.getElem?_eq_none (by simp; omega), List.getElem?_eq_none (by omega)]
end Go.Av
namespace Go.Av
open Go.Proofs Go.RowKit Go.Proofs.YtaghfmgeccapbaaGreatDoor
variable [Rk]
theorem OwnG.out {w w' : World} {lo lo' hi hi' n sz A : Nat} {e : TypeId} {v : Value} {xs : List Value} (h : OwnG w lo hi e sz v n xs) (hg : w.grownBy w' (some A)) (hA : A < lo ∨ hi ≤ A) (hl : lo' ≤ lo) (hh : hi ≤ hi') : OwnG w' lo' hi' e sz v n xs := by
  obtain ⟨a, c, rfl, hc, hx, h | ⟨g, cur, rfl, h1, h2, h3, h4, h5, h6⟩⟩ := h
  · exact ⟨a, c, rfl, hc, hx, .inl h⟩
  · exact ⟨_, c, rfl, hc, hx, .inr ⟨g, cur, rfl, Nat.le_trans hl h1, Nat.lt_of_lt_of_le h2 hh, Nat.lt_of_lt_of_le h3 hg.size, (hg.block g h3 (fun e => by injection e with e; omega)).trans h4, h5, h6⟩⟩
theorem NodeR.out {cur : Array Value} {w w' : World} {i a m b A : Nat} {e : D} (h : NodeR cur w i a m b e) (hg : w.grownBy w' (some A)) (hA : A < a ∨ b ≤ A) (hm : a ≤ m) (hb : m ≤ b) : NodeR cur w' i a m b e := by
  obtain ⟨p, k, sp, nm, la, ls, tx, u4, u5, vs4, vs5, he, hc, h4, h5, r4, r5⟩ := h
  exact ⟨p, k, sp, nm, la, ls, tx, u4, u5, vs4, vs5, he, hc, h4.out hg (by omega) (Nat.le_refl _) (Nat.le_refl _), h5.out hg (by omega) (Nat.le_refl _) (Nat.le_refl _), r4, r5⟩
theorem r_mono {k : Nat} {r m : Nat → Nat} (h3 : ∀ i, i < k → r i ≤ m i ∧ m i ≤ r (i + 1)) : ∀ d i, i + d ≤ k → r i ≤ r (i + d) := by
  intro d
  induction d with
  | zero => intro i _; exact Nat.le_refl _
  | succ d ih => intro i hi; have := ih i (by omega); have := h3 (i + d) (by omega); rw [show i + (d + 1) = i + d + 1 by omega]; omega
theorem r_mono' {k : Nat} {r m : Nat → Nat} (h3 : ∀ i, i < k → r i ≤ m i ∧ m i ≤ r (i + 1)) {i j : Nat} (h : i ≤ j) (hj : j ≤ k) : r i ≤ r j := by
  have := r_mono h3 (j - i) i (by omega)
  rwa [show i + (j - i) = j by omega] at this
theorem DocC.setA {w : World} {lo hi k i : Nat} {cur : Array Value} {es : List D} {p kk : Int} {sp nm tx : List UInt8} {la ls : List D} (h : DocC w lo hi cur es k) (hik : i < k) (he : es[i]? = some (.agg [.int .i64 p, .int .i64 kk, .str sp, .str nm, .list la, .list ls, .str tx])) :
    ∃ a m u4 vs4, lo ≤ a ∧ m ≤ hi ∧ cur[i * 7 + 4]? = some u4 ∧ OwnG w a m 50 3 u4 la.length vs4 ∧ Rd vs4 la ∧
      ∀ (w' : World) (u4' : Value) (la' : List D) (vs4' : List Value) (A : Nat) (cur' : Array Value), w.grownBy w' (some A) → a ≤ A → A < m → OwnG w' a m 50 3 u4' la'.length vs4' → Rd vs4' la' → (∀ j, j ≠ i * 7 + 4 → cur'[j]? = cur[j]?) → cur'[i * 7 + 4]? = some u4' →
        DocC w' lo hi cur' (es.set i (.agg [.int .i64 p, .int .i64 kk, .str sp, .str nm, .list la', .list ls, .str tx])) k := by
  obtain ⟨r, m, h1, h2, h3, h4⟩ := h
  have hlo := DocC.lo_r h1 h3 i (by omega)
  obtain ⟨p0, k0, sp0, nm0, la0, ls0, tx0, u4, u5, vs4, vs5, e0, ⟨c0, c1, c2, c3, c4, c5, c6⟩, o4, o5, r4, r5⟩ := h4 i _ hik he
  simp only [D.agg.injEq, List.cons.injEq, D.int.injEq, D.str.injEq, D.list.injEq, and_true, true_and] at e0
  obtain ⟨rfl, rfl, rfl, rfl, rfl, rfl, rfl⟩ := e0
  have hr1 := r_mono' h3 (i := i + 1) (j := k) (by omega) (Nat.le_refl _)
  have hm := h3 i hik
  refine ⟨r i, m i, u4, vs4, hlo, by omega, c4, o4, r4, fun w' u4' la' vs4' A cur' hg hA1 hA2 o4' r4' hc hc4 => ⟨r, m, h1, h2, h3, fun j x hj hx => ?_⟩⟩
  by_cases hji : j = i
  · subst hji
    have hjl := (List.getElem?_eq_some_iff.1 he).1
    rw [List.getElem?_set_self hjl] at hx
    obtain rfl := Option.some.inj hx
    exact ⟨_, _, _, _, la', _, _, u4', u5, vs4', vs5, rfl, ⟨(hc _ (by omega)).trans c0, (hc _ (by omega)).trans c1, (hc _ (by omega)).trans c2, (hc _ (by omega)).trans c3, hc4, (hc _ (by omega)).trans c5, (hc _ (by omega)).trans c6⟩, o4', o5.out hg (by omega) (Nat.le_refl _) (Nat.le_refl _), r4', r5⟩
  · rw [List.getElem?_set_ne (fun e => hji e.symm)] at hx
    have hmj := h3 j hj
    refine ((h4 j x hj hx).out hg ?_ hmj.1 hmj.2).cells (fun t ht => hc _ (by omega))
    by_cases hlt : j < i
    · have := r_mono' h3 (i := j + 1) (j := i) (by omega) (by omega)
      omega
    · have := r_mono' h3 (i := i + 1) (j := j) (by omega) (by omega)
      omega
theorem DocC.setS {w : World} {lo hi k i : Nat} {cur : Array Value} {es : List D} {p kk : Int} {sp nm tx : List UInt8} {la ls : List D} (h : DocC w lo hi cur es k) (hik : i < k) (he : es[i]? = some (.agg [.int .i64 p, .int .i64 kk, .str sp, .str nm, .list la, .list ls, .str tx])) :
    ∃ a m u5 vs5, lo ≤ a ∧ m ≤ hi ∧ cur[i * 7 + 5]? = some u5 ∧ OwnG w a m 9 1 u5 ls.length vs5 ∧ Rd vs5 ls ∧
      ∀ (w' : World) (u5' : Value) (ls' : List D) (vs5' : List Value) (A : Nat) (cur' : Array Value), w.grownBy w' (some A) → a ≤ A → A < m → OwnG w' a m 9 1 u5' ls'.length vs5' → Rd vs5' ls' → (∀ j, j ≠ i * 7 + 5 → cur'[j]? = cur[j]?) → cur'[i * 7 + 5]? = some u5' →
        DocC w' lo hi cur' (es.set i (.agg [.int .i64 p, .int .i64 kk, .str sp, .str nm, .list la, .list ls', .str tx])) k := by
  obtain ⟨r, m, h1, h2, h3, h4⟩ := h
  have hlo := DocC.lo_r h1 h3 i (by omega)
  obtain ⟨p0, k0, sp0, nm0, la0, ls0, tx0, u4, u5, vs4, vs5, e0, ⟨c0, c1, c2, c3, c4, c5, c6⟩, o4, o5, r4, r5⟩ := h4 i _ hik he
  simp only [D.agg.injEq, List.cons.injEq, D.int.injEq, D.str.injEq, D.list.injEq, and_true, true_and] at e0
  obtain ⟨rfl, rfl, rfl, rfl, rfl, rfl, rfl⟩ := e0
  have hr1 := r_mono' h3 (i := i + 1) (j := k) (by omega) (Nat.le_refl _)
  have hm := h3 i hik
  refine ⟨m i, r (i + 1), u5, vs5, by omega, by omega, c5, o5, r5, fun w' u5' ls' vs5' A cur' hg hA1 hA2 o5' r5' hc hc5 => ⟨r, m, h1, h2, h3, fun j x hj hx => ?_⟩⟩
  by_cases hji : j = i
  · subst hji
    have hjl := (List.getElem?_eq_some_iff.1 he).1
    rw [List.getElem?_set_self hjl] at hx
    obtain rfl := Option.some.inj hx
    exact ⟨_, _, _, _, _, ls', _, u4, u5', vs4, vs5', rfl, ⟨(hc _ (by omega)).trans c0, (hc _ (by omega)).trans c1, (hc _ (by omega)).trans c2, (hc _ (by omega)).trans c3, (hc _ (by omega)).trans c4, hc5, (hc _ (by omega)).trans c6⟩, o4.out hg (by omega) (Nat.le_refl _) (Nat.le_refl _), o5', r4, r5'⟩
  · rw [List.getElem?_set_ne (fun e => hji e.symm)] at hx
    have hmj := h3 j hj
    refine ((h4 j x hj hx).out hg ?_ hmj.1 hmj.2).cells (fun t ht => hc _ (by omega))
    by_cases hlt : j < i
    · have := r_mono' h3 (i := j + 1) (j := i) (by omega) (by omega)
      omega
    · have := r_mono' h3 (i := i + 1) (j := j) (by omega) (by omega)
      omega
theorem OwnG.del3 {w : World} {lo hi c n i : Nat} {A : Option Addr} {xs : List Value} (h : OwnG w lo hi 50 3 (.slice A n c) n xs) (h1 : ∀ x ∈ xs, x.oneCell' = true) (hi' : i < n) (j : Int) (hj : j = ((i + 1 : Nat) : Int)) :
    Calls Tryz.prog 44 #[.slice A n c, .int .i64 i, .int .i64 j] w fun e w' => ∃ b, e = .returned (.slice A (n - 1) c) ∧ lo ≤ b ∧ b < hi ∧ w.grownBy w' (some b) ∧ w'.heap.size = w.heap.size ∧ OwnG w' lo hi 50 3 (.slice A (n - 1) c) (n - 1) (cutC 3 i xs) := by
  obtain ⟨A', c', e, ⟨hc1, hc2⟩, hx, h0 | ⟨g, cur, rfl, b1, b2, b3, b4, b5, b6⟩⟩ := h
  · omega
  · simp only [Value.slice.injEq, true_and] at e
    obtain ⟨rfl, rfl⟩ := e
    subst hj
    have hB : Bk w g 50 cur := b4
    have hat : ∀ k u, xs[k]? = some u → w.cell? ⟨g, 0 + k, none⟩ = some u ∧ w.frozen? ⟨g, 0 + k, none⟩ = false ∧ u.oneCell' = true := fun k u hu => by
      rw [Nat.zero_add]
      refine ⟨?_, hB.free k, h1 u (List.mem_of_getElem? hu)⟩
      rw [hB.cell k, ← Array.getElem?_toList]
      have hk := (List.getElem?_eq_some_iff.1 hu).1
      rw [← b6, List.getElem?_take] at hu
      rw [if_pos (by rw [← hx]; exact hk)] at hu
      exact hu
    refine (del3_any g 0 c i (i + 1) n xs w hx hat hc1 hc2 hi' rfl).mono ?_
    rintro e w' ⟨rfl, rfl⟩
    obtain ⟨cur', d1, d2, d3, d4, d5⟩ := del_left (zs := [.string ⟨#[]⟩, .string ⟨#[]⟩, .string ⟨#[]⟩]) hB hx b5 b6 hi' rfl
    exact ⟨g, rfl, b1, b2, d3, d4, _, c, rfl, ⟨by omega, hc2⟩, cutC_len hx hi', .inr ⟨g, cur', rfl, b1, b2, by rw [d4]; exact b3, d1, by rw [d2]; omega, d5⟩⟩
theorem OwnG.del1 {w : World} {lo hi c n i : Nat} {A : Option Addr} {xs : List Value} (h : OwnG w lo hi 9 1 (.slice A n c) n xs) (h1 : ∀ x ∈ xs, x.oneCell' = true) (hi' : i < n) (j : Int) (hj : j = ((i + 1 : Nat) : Int)) :
    Calls Tryz.prog 45 #[.slice A n c, .int .i64 i, .int .i64 j] w fun e w' => ∃ b, e = .returned (.slice A (n - 1) c) ∧ lo ≤ b ∧ b < hi ∧ w.grownBy w' (some b) ∧ w'.heap.size = w.heap.size ∧ OwnG w' lo hi 9 1 (.slice A (n - 1) c) (n - 1) (cutC 1 i xs) := by
  obtain ⟨A', c', e, ⟨hc1, hc2⟩, hx, h0 | ⟨g, cur, rfl, b1, b2, b3, b4, b5, b6⟩⟩ := h
  · omega
  · simp only [Value.slice.injEq, true_and] at e
    obtain ⟨rfl, rfl⟩ := e
    subst hj
    have hB : Bk w g 9 cur := b4
    have hat : ∀ k u, xs[k]? = some u → w.cell? ⟨g, 0 + k, none⟩ = some u ∧ w.frozen? ⟨g, 0 + k, none⟩ = false ∧ u.oneCell' = true := fun k u hu => by
      rw [Nat.zero_add]
      refine ⟨?_, hB.free k, h1 u (List.mem_of_getElem? hu)⟩
      rw [hB.cell k, ← Array.getElem?_toList]
      have hk := (List.getElem?_eq_some_iff.1 hu).1
      rw [← b6, List.getElem?_take] at hu
      rw [if_pos (by rw [← hx]; exact hk)] at hu
      exact hu
    refine (del1_any g 0 c i (i + 1) n xs w (by omega) hat hc1 hc2 hi' rfl).mono ?_
    rintro e w' ⟨rfl, rfl⟩
    obtain ⟨cur', d1, d2, d3, d4, d5⟩ := del_left (zs := [.string ⟨#[]⟩]) hB hx b5 b6 hi' rfl
    simp only [Nat.mul_one] at d1 d3 d4
    exact ⟨g, rfl, b1, b2, d3, d4, _, c, rfl, ⟨by omega, hc2⟩, cutC_len hx hi', .inr ⟨g, cur', rfl, b1, b2, by rw [d4]; exact b3, d1, by rw [d2]; omega, d5⟩⟩
theorem flat_cut {sz : Nat} : ∀ (la : List D) (i : Nat), (∀ e ∈ la, (dcells e).length = sz) → i < la.length → flat (la.eraseIdx i) = (flat la).take (i * sz) ++ (flat la).drop ((i + 1) * sz)
  | [], i, h, hi => by simp at hi
  | e :: la, 0, h, hi => by
    have he := h e (by simp)
    simp [flat_cons, ← he]
  | e :: la, i + 1, h, hi => by
    have he := h e (by simp)
    have ih := flat_cut la i (fun x hx => h x (by simp [hx])) (by simpa using hi)
    rw [List.eraseIdx_cons_succ, flat_cons, flat_cons, ih, List.take_append, List.drop_append, he]
    have e1 : (i + 1) * sz = sz + i * sz := by rw [Nat.add_mul]; omega
    have e2 : (i + 1 + 1) * sz = sz + (i + 1) * sz := by rw [Nat.add_mul (i + 1)]; omega
    rw [e2, e1, List.take_of_length_le (l := dcells e) (by omega), List.drop_of_length_le (l := dcells e) (by omega)]
    simp
theorem Rd.cut {sz i : Nat} {vs : List Value} {la : List D} (h : Rd vs la) (hs : ∀ e ∈ la, (dcells e).length = sz) (hl : vs.length = la.length * sz) (hi : i < la.length) : Rd (cutC sz i vs) (la.eraseIdx i) := by
  have hf := flat_len hs
  have hle : (i + 1) * sz ≤ la.length * sz := Nat.mul_le_mul_right _ hi
  have e1 : (i + 1) * sz = i * sz + sz := by rw [Nat.add_mul]; omega
  refine ⟨fun x hx => ?_, fun F w j v x hv hx => ?_⟩
  · rcases List.mem_append.1 hx with hx | hx
    · exact h.1 x (List.mem_of_mem_take hx)
    · exact h.1 x (List.mem_of_mem_drop hx)
  · rw [flat_cut la i hs hi] at hx
    unfold cutC at hv
    by_cases hj : j < i * sz
    · rw [List.getElem?_append_left (by simp; omega), List.getElem?_take, if_pos hj] at hv hx
      exact h.2 F w j v x hv hx
    · rw [List.getElem?_append_right (by simp; omega), List.getElem?_drop] at hv hx
      simp only [List.length_take, hl, hf] at hv hx
      exact h.2 F w _ v x hv hx
end Go.Av
namespace Go.Av
open Go.Proofs Go.RowKit Go.Proofs.YtaghfmgeccapbaaGreatDoor
variable [Rk]
theorem OwnG.den {w : World} {lo hi n sz : Nat} {e : TypeId} {v : Value} {vs : List Value} {es : List D} {F : Nat → Nat → Prop} (h : OwnG w lo hi e sz v n vs) (hn : es.length = n) (hs : ∀ e ∈ es, (dcells e).length = sz) (hsz : 0 < sz) (hr : Rd vs es) (hF : ∀ b o, lo ≤ b → b < hi → F b o) : Den0 F w v (.list es) := by
  obtain ⟨A, c, rfl, ⟨hc, hm⟩, hx, h0⟩ := h
  refine .list A n c sz es vs hn hc hsz hs hx ?_ (fun i v x hv hx => hr.2 F w i v x hv hx)
  rcases h0 with h0 | ⟨g, cur, rfl, b1, b2, b3, b4, b5, b6⟩
  · left
    rw [h0, Nat.zero_mul] at hx
    exact List.length_eq_zero_iff.1 hx
  · right
    refine ⟨g, 0, rfl, fun i v hv => ⟨hF _ _ b1 b2, ?_, hr.1 v (List.mem_of_getElem? hv)⟩⟩
    have hi := (List.getElem?_eq_some_iff.1 hv).1
    rw [Nat.zero_add, cell_of_row w g i cur e (0, 0) b4, ← Array.getElem?_toList]
    rw [← b6, List.getElem?_take, if_pos (by omega)] at hv
    exact hv
theorem OwnG.one {w : World} {lo hi n sz : Nat} {e : TypeId} {v : Value} {vs : List Value} (h : OwnG w lo hi e sz v n vs) : v.oneCell' = true := by
  obtain ⟨A, c, rfl, _⟩ := h
  rfl
theorem DocR.den {w : World} {lo hi : Nat} {u : Value} {es : List D} {F : Nat → Nat → Prop} (h : DocR w lo hi u es) (hs : ∀ e ∈ es, isNode e = true) (hF : ∀ b o, lo ≤ b → b < hi ∨ (∃ c, u = .slice (some ⟨b, 0, none⟩) es.length c) → F b o) : Den0 F w u (.list es) := by
  obtain ⟨g, c, cur, rfl, hc, hm, hlo, hh, hcs, r, m, h1, h2, h3, h4⟩ := h
  have hl7 : ∀ e ∈ es, (dcells e).length = 7 := isNode_len hs
  have hfl := flat_len hl7
  have hcl : (cur.toList.take (es.length * 7)).length = es.length * 7 := by simp; omega
  have key : ∀ (t : Nat) (v : Value) (x : D), cur[t]? = some v → (flat es)[t]? = some x → v.oneCell' = true ∧ Den0 F w v x := by
    intro t v x hv hx
    have ht : t < es.length * 7 := by rw [← hfl]; exact (List.getElem?_eq_some_iff.1 hx).1
    obtain ⟨i, j, hj, rfl⟩ : ∃ i j, j < 7 ∧ t = i * 7 + j := ⟨t / 7, t % 7, Nat.mod_lt _ (by decide), by omega⟩
    have hi : i < es.length := by omega
    have hei : es[i]? = some es[i] := List.getElem?_eq_getElem hi
    have hmem := List.getElem_mem hi
    obtain ⟨p, k, sp, nm, la, ls, tx, u4, u5, vs4, vs5, he, ⟨c0, c1, c2, c3, c4, c5, c6⟩, o4, o5, r4, r5⟩ := h4 i _ hi hei
    obtain ⟨p', k', sp', nm', la', ls', tx', he', q4, q5, _, _⟩ := isNode_inv (hs _ hmem)
    rw [he] at hei he'
    simp only [D.agg.injEq, List.cons.injEq, D.int.injEq, D.str.injEq, D.list.injEq, and_true, true_and] at he'
    obtain ⟨rfl, rfl, rfl, rfl, rfl, rfl, rfl⟩ := he'
    have f := flat_at hl7 hei j hj
    rw [hx] at f
    have hl0 := DocC.lo_r h1 h3 i (by omega)
    have hr1 := r_mono' h3 (i := i + 1) (j := es.length) (by omega) (Nat.le_refl _)
    have hmi := h3 i hi
    have d4 : Den0 F w u4 (.list la) := o4.den rfl q4 (by decide) r4 (fun b o hb hb2 => hF b o (by omega) (.inl (by omega)))
    have d5 : Den0 F w u5 (.list ls) := o5.den rfl q5 (by decide) r5 (fun b o hb hb2 => hF b o (by omega) (.inl (by omega)))
    match j, hj with
    | 0, _ => simp only [Nat.add_zero] at hv; rw [c0] at hv; simp [dcells] at f; cases hv; subst f; exact ⟨rfl, .int _ _⟩
    | 1, _ => rw [c1] at hv; simp [dcells] at f; cases hv; subst f; exact ⟨rfl, .int _ _⟩
    | 2, _ => rw [c2] at hv; simp [dcells] at f; cases hv; subst f; exact ⟨rfl, .str _⟩
    | 3, _ => rw [c3] at hv; simp [dcells] at f; cases hv; subst f; exact ⟨rfl, .str _⟩
    | 4, _ => rw [c4] at hv; simp [dcells] at f; cases hv; subst f; exact ⟨o4.one, d4⟩
    | 5, _ => rw [c5] at hv; simp [dcells] at f; cases hv; subst f; exact ⟨o5.one, d5⟩
    | 6, _ => rw [c6] at hv; simp [dcells] at f; cases hv; subst f; exact ⟨rfl, .str _⟩
  refine .list _ _ c 7 es (cur.toList.take (es.length * 7)) rfl hc (by decide) hl7 hcl (.inr ⟨g, 0, rfl, fun i v hv => ?_⟩) (fun i v x hv hx => ?_)
  · have hi := (List.getElem?_eq_some_iff.1 hv).1
    rw [List.getElem?_take, if_pos (by omega), Array.getElem?_toList] at hv
    rw [Nat.zero_add, cell_of_row w g i cur 48 (0, 0) hh]
    refine ⟨hF _ _ hlo (.inr ⟨c, rfl⟩), hv, ?_⟩
    have : i < (flat es).length := by omega
    exact (key i v _ hv (List.getElem?_eq_getElem this)).1
  · have hi := (List.getElem?_eq_some_iff.1 hv).1
    rw [List.getElem?_take, if_pos (by omega), Array.getElem?_toList] at hv
    exact (key i v x hv hx).2
end Go.Av
namespace Go.Av
variable [Rk]
open Go.Proofs Go.RowKit Go.Proofs.YtaghfmgeccapbaaGreatDoor
def extCl : Call := fun f args pbs => match f, args, pbs with
  | 59, [.list es], [] => if szAll 3 es = true then some (.list es, [], []) else none
  | 60, [.list es], [] => if szAll 1 es = true then some (.list es, [], []) else none
  | 39, [d], [] => if isNode d = true then some (d, [], []) else none
  | _, _, _ => none
theorem extCl_ok : CallOK Tryz.prog extCl := by
  intro f args pbs d r pbs' h
  unfold extCl at h
  split at h
  · rename_i es
    split at h
    · rename_i hc
      obtain ⟨hs, hl⟩ := szAll_inv hc
      simp only [Option.some.injEq, Prod.mk.injEq] at h
      obtain ⟨rfl, rfl, rfl⟩ := h
      refine ⟨⟨_, Tryz.func59, rfl⟩, fun vals w F μ hv hd hb _ hlt hg => ?_⟩
      obtain ⟨v, rfl, h0⟩ := one_den hv hd
      exact (clone46_any es F w v hlt (den_list0 h0) hs (by omega)).mono fun e w' h => h.ret hlt
    · cases h
  · rename_i es
    split at h
    · rename_i hc
      obtain ⟨hs, hl⟩ := szAll_inv hc
      simp only [Option.some.injEq, Prod.mk.injEq] at h
      obtain ⟨rfl, rfl, rfl⟩ := h
      refine ⟨⟨_, Tryz.func60, rfl⟩, fun vals w F μ hv hd hb _ hlt hg => ?_⟩
      obtain ⟨v, rfl, h0⟩ := one_den hv hd
      exact (clone47_any es F w v hlt (den_list0 h0) hs (by omega)).mono fun e w' h => h.ret hlt
    · cases h
  · rename_i d0
    split at h
    · rename_i hc
      simp only [Option.some.injEq, Prod.mk.injEq] at h
      obtain ⟨rfl, rfl, rfl⟩ := h
      refine ⟨⟨_, Tryz.func39, rfl⟩, fun vals w F μ hv hd hb _ hlt hg => ?_⟩
      obtain ⟨v, rfl, h0⟩ := one_den hv hd
      obtain ⟨p, k, sp, nm, la, ls, tx, v4, v5, rfl, rfl, h4, h5, o4, o5⟩ := node_pure hc h0
      obtain ⟨_, _, _, _, la', ls', _, e, s4, s5, l4, l5⟩ := isNode_inv hc
      simp only [D.agg.injEq, List.cons.injEq, D.list.injEq, and_true] at e
      obtain ⟨_, _, _, _, rfl, rfl, _⟩ := e
      refine (copied_any p k ⟨sp.toArray⟩ ⟨nm.toArray⟩ ⟨tx.toArray⟩ v4 v5 la ls F w hlt h4 h5 s4 s5 (by omega) (by omega) o4 o5).mono ?_
      rintro e w' ⟨u4, u5, rfl, hG, q4, q5, p4, p5⟩
      exact (RetD.of hG (node_den q4 q5 p4 p5)).ret hlt
    · cases h
  · cases h
end Go.Av
