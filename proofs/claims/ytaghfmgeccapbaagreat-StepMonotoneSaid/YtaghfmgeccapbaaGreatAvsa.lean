/- The evaluator, in one text: over any program; no conditions but those that each law names. -/
import Derived.Test.YtaghfmgeccapbaaGreatAvb
import Derived.Test.YtaghfmgeccapbaaGreatProg
import Derived.KernelRfl
import Derived.WalkKit
import Derived.WalkSpells
import Derived.WalkLawsBesides
import Derived.Lib.Hide
import Derived.Test.YtaghfmgeccapbaaGreatChecked
import Derived.Deep.RegionLaw
import Derived.Deep.QuietTactic
import Derived.BigQuiet
import Derived.Handy
import Derived.Laws.BytesArg
import Derived.Deep.RegionHeld3
set_option linter.unusedSimpArgs false
set_option linter.unusedVariables false
set_option linter.unusedSectionVars false
namespace Go.Av
open Go.Proofs
def stS : List (List UInt8) := [[104, 111, 118, 101, 114], [97, 99, 116, 105, 118, 101], [102, 111, 99, 117, 115], [102, 111, 99, 117, 115, 45, 118, 105, 115, 105, 98, 108, 101], [118, 105, 115, 105, 116, 101, 100], [108, 105, 110, 107], [99, 104, 101, 99, 107, 101, 100], [100, 105, 115, 97, 98, 108, 101, 100], [101, 110, 97, 98, 108, 101, 100], [116, 97, 114, 103, 101, 116]]
class Rk where
  r : Call
instance g12 : Gs where
  gl := fun _ => .bad
  rowAt := fun o => match o.op with
    | .makeSlice t _ _ => (t == 76 && o.dst == some 18) || (t == 39 && (o.dst == some 21 || o.dst == some 9)) || (t == 42 && o.dst == some 15)
    | .call c => (match c.callee, c.argTypes.toList with
      | .builtin .append, t :: _ => t == 42 && o.dst == some 9
      | _, _ => false)
    | _ => false
  frzAt := fun l => match l with
    | o :: _ => (match o.op with
      | .move (.tmp n) => if (n == 5 && (o.dst == some 35 || o.dst == some 39)) = true then [5] else if (n == 6 && o.dst == some 29) = true then [6] else if (n == 8 && o.dst == some 119) = true then [8] else []
      | _ => [])
    | [] => []
  noEat := fun t => t == 3
  callK := fun o => match o.op with
    | .call c => (match c.callee with | .value (.func f) => if (f == 47 && o.dst == some 102) = true then some 1000000 else none | _ => none)
    | _ => none
theorem mx12 : Tryz.prog.follows .mixedOrders = true := by kernel_rfl
theorem nm12 : (Tryz.prog.funcs.all fun fn => !(fn.name == "runtime.NumGoroutine")) = true := by kernel_rfl
theorem fineS : Fine Tryz.prog := by
  refine ⟨mx12, fun f fn hf => ?_⟩
  have h := Array.all_eq_true_iff_forall_mem.1 nm12 fn (Array.mem_of_getElem? hf)
  simpa using h
end Go.Av
namespace Go.Proofs.YtaghfmgeccapbaaGreat
open Go.RowKit

def Bk (w : World) (g : Nat) (t : TypeId) (cs : Array Value) : Prop := w.heap[g]? = some (.cells cs t (0, 0))

def Sl (w : World) (B : Nat) (a : Option Addr) (xs : List Value) : Prop :=
  xs ≠ [] → ∃ b off, a = some ⟨b, off, none⟩ ∧ b < B ∧ ∀ i (h : i < xs.length), w.cell? ⟨b, off + i, none⟩ = some xs[i]

section
variable {w w' : World} {g : Nat} {t : TypeId} {cs : Array Value}

theorem Bk.lt (h : Bk w g t cs) : g < w.heap.size := by
  apply Classical.byContradiction
  intro hn
  have : w.heap[g]? = none := Array.getElem?_eq_none (by omega)
  unfold Bk at h
  rw [this] at h
  cases h
theorem Bk.cell (h : Bk w g t cs) (i : Nat) : w.cell? ⟨g, i, none⟩ = cs[i]? := cell_of_row w g i cs t (0, 0) h
theorem Bk.free (h : Bk w g t cs) (i : Nat) : w.frozen? ⟨g, i, none⟩ = false := frozen_of_row w g i cs t h
theorem Bk.new (w : World) (t : TypeId) (cs : Array Value) : Bk (w.alloc (.cells cs t)) w.heap.size t cs := heap_alloc_new w _
theorem Bk.put (h : Bk w g t cs) (i : Nat) (u : Value) : Bk (w.setCell ⟨g, i, none⟩ u) g t (cs.setIfInBounds i u) := heap_setCell_same w g i cs t u h
theorem Bk.below {B : Nat} (h : Bk w g t cs) (hb : Below B w w') (hg : g < B) : Bk w' g t cs := (hb.block g hg).trans h
theorem Bk.grown {row : Option Nat} (h : Bk w g t cs) (hb : w.grownBy w' row) (hg : some g ≠ row) : Bk w' g t cs := (hb.block g h.lt hg).trans h
theorem Bk.drew (h : Bk w g t cs) : Bk w.drew g t cs := h
theorem Bk.drewN (h : Bk w g t cs) (n : Nat) : Bk (w.drewN n) g t cs := h
theorem Bk.alloc (h : Bk w g t cs) (o : Obj) : Bk (w.alloc o) g t cs := (Below.heap_alloc w o g h.lt).trans h
theorem Bk.other (h : Bk w g t cs) {p : Addr} (hp : g ≠ p.block) (u : Value) : Bk (w.setCell p u) g t cs := (Below.heap_setCell w p u g hp).trans h

theorem grown_put {a : World} {r : Option Nat} (h : a.grownBy w r) {p : Addr} (hp : r = some p.block) (u : Value) : a.grownBy (w.setCell p u) r :=
  ⟨h.os, h.tape, h.output, by simpa using h.size, fun k hk hne => (Below.heap_setCell w p u k (fun e => hne (by rw [hp, e]))).trans (h.block k hk hne)⟩
theorem grown_new {a : World} {r : Option Nat} (h : a.grownBy w r) (o : Obj) : a.grownBy (w.alloc o) r :=
  ⟨h.os, h.tape, h.output, Nat.le_trans h.size (by simp), fun k hk hne => (Below.heap_alloc w o k (Nat.lt_of_lt_of_le hk h.size)).trans (h.block k hk hne)⟩
theorem grown_drew {a : World} {r : Option Nat} (h : a.grownBy w r) : a.grownBy w.drew r := ⟨h.os, h.tape, h.output, h.size, h.block⟩
theorem below_drewN {B : Nat} {a : World} (h : Below B a w) (n : Nat) : Below B a (w.drewN n) := ⟨h.os, h.tape, h.output, h.size, h.block⟩
theorem below_of_grown {r : Option Nat} (h : w.grownBy w' r) {B : Nat} (hB : B ≤ w.heap.size) (hr : ∀ k, r = some k → B ≤ k) : Below B w w' :=
  (Below.refl B w).grown h hB hr

theorem below_cells {B : Nat} (hb : Below B w w') : (∀ b o, b < B → w'.cell? ⟨b, o, none⟩ = w.cell? ⟨b, o, none⟩) ∧ (∀ b o, b < B → w'.frozen? ⟨b, o, none⟩ = w.frozen? ⟨b, o, none⟩) :=
  ⟨fun b o h => hb.cell (p := ⟨b, o, none⟩) h, fun b o h => hb.frozen (p := ⟨b, o, none⟩) h⟩
end

section
variable {w w' : World} {B B' : Nat} {a : Option Addr} {xs : List Value}

theorem Sl.nil : Sl w B a [] := fun h => absurd rfl h
theorem Sl.keep (h : Sl w B a xs) (hk : ∀ b o, b < B → w'.cell? ⟨b, o, none⟩ = w.cell? ⟨b, o, none⟩) : Sl w' B a xs := fun hne => by
  obtain ⟨b, off, e, hb, hc⟩ := h hne
  exact ⟨b, off, e, hb, fun i hi => (hk b _ hb).trans (hc i hi)⟩
theorem Sl.mono (h : Sl w B a xs) (hB : B ≤ B') : Sl w B' a xs := fun hne => by
  obtain ⟨b, off, e, hb, hc⟩ := h hne
  exact ⟨b, off, e, Nat.lt_of_lt_of_le hb hB, hc⟩
theorem Sl.below (h : Sl w B a xs) (hb : Below B w w') : Sl w' B a xs := h.keep (below_cells hb).1
theorem Sl.drew (h : Sl w B a xs) : Sl w.drew B a xs := h
theorem Sl.drewN (h : Sl w B a xs) (n : Nat) : Sl (w.drewN n) B a xs := h
theorem Sl.alloc (h : Sl w B a xs) (hB : B ≤ w.heap.size) (o : Obj) : Sl (w.alloc o) B a xs := h.below ((Below.refl B w).alloc hB o)
theorem Sl.open_ (h : Sl w B a xs) {k : Nat} (hk : k < xs.length) : ∃ b off, a = some ⟨b, off, none⟩ ∧ b < B ∧ ∀ i (h : i < xs.length), w.cell? ⟨b, off + i, none⟩ = some xs[i] :=
  h (by intro e; subst e; simp at hk)
theorem Sl.of_own {base size n c : Nat} {e : TypeId} (h : w.ownsRow base e size (.slice a n c) n xs) : Sl w w.heap.size a xs := fun hne => by
  rcases h.2 with ⟨hv, hn⟩ | ⟨g, cap, cur, hv, _, hg, _, _, hsz, htake⟩
  · subst hn
    have := h.1
    simp at this
    exact absurd this hne
  · have ha : a = some ⟨g, 0, none⟩ := by injection hv
    subst ha
    refine ⟨g, 0, rfl, Bk.lt hg, fun i hi => ?_⟩
    rw [Nat.zero_add, Bk.cell hg i]
    have hx : xs[i] = (cur.toList.take (n * size))[i]'(by rw [htake]; exact hi) := by simp only [htake]
    rw [hx, List.getElem_take]
    simp
theorem Sl.lit (w : World) (t : TypeId) (cs : Array Value) : Sl (w.alloc (.cells cs t)) (w.heap.size + 1) (some ⟨w.heap.size, 0, none⟩) cs.toList := fun _ =>
  ⟨w.heap.size, 0, rfl, Nat.lt_succ_self _, fun i hi => by rw [Nat.zero_add, (Bk.new w t cs).cell i]; simp at hi; simp [hi]⟩
theorem Sl.cut (h : Sl w B a xs) {k cap n : Nat} (hk : k ≤ n) (hn : xs.length = n) (hc : n ≤ cap) : Sl w B (if cap = k then a else a.map (·.add k)) (xs.drop k) := fun hne => by
  have hlt : k < n := by
    apply Classical.byContradiction
    intro hge
    exact hne (List.drop_eq_nil_of_le (by omega))
  obtain ⟨b, off, rfl, hb, hcell⟩ := h.open_ (k := k) (by omega)
  rw [if_neg (by omega)]
  refine ⟨b, off + k, ?_, hb, fun i hi => ?_⟩
  · simp [Addr.add]
  · rw [Nat.add_assoc, List.getElem_drop]
    exact hcell (k + i) (by simp at hi; omega)
theorem Sl.take (h : Sl w B a xs) (k : Nat) : Sl w B a (xs.take k) := fun hne => by
  have hne' : xs ≠ [] := by intro e; subst e; simp at hne
  obtain ⟨b, off, e, hb, hc⟩ := h hne'
  refine ⟨b, off, e, hb, fun i hi => ?_⟩
  rw [List.getElem_take]
  exact hc i (by simp at hi; omega)
end

def Qt (w w' : World) : Prop := ∃ n, w' = w.drewN n
section
variable {w w' : World}
theorem Qt.refl (w : World) : Qt w w := ⟨0, rfl⟩
theorem Qt.drewN (h : Qt w w') (n : Nat) : Qt w (w'.drewN n) := by
  obtain ⟨m, rfl⟩ := h
  exact ⟨m + n, by simp [World.drewN, Nat.add_assoc]⟩
theorem Qt.drew (h : Qt w w') : Qt w w'.drew := by
  obtain ⟨m, rfl⟩ := h
  exact ⟨m + 1, rfl⟩
theorem Qt.cell (h : Qt w w') (a : Addr) : w'.cell? a = w.cell? a := by
  obtain ⟨m, rfl⟩ := h
  rfl
theorem Qt.frozen (h : Qt w w') (a : Addr) : w'.frozen? a = w.frozen? a := by
  obtain ⟨m, rfl⟩ := h
  rfl
theorem Qt.heap (h : Qt w w') : w'.heap = w.heap := by
  obtain ⟨m, rfl⟩ := h
  rfl
theorem Qt.below (h : Qt w w') {B : Nat} : Below B w w' := by
  obtain ⟨m, rfl⟩ := h
  exact below_drewN (Below.refl B w) m
theorem Qt.grown (h : Qt w w') : w.grownBy w' none := by
  obtain ⟨m, rfl⟩ := h
  exact ⟨rfl, rfl, rfl, Nat.le_refl _, fun _ _ _ => rfl⟩
theorem Qt.trans {w'' : World} (h : Qt w w') (h' : Qt w' w'') : Qt w w'' := by
  obtain ⟨m, rfl⟩ := h'
  exact h.drewN m
end

theorem addr_add (b off j : Nat) : (⟨b, off, none⟩ : Addr).add j = ⟨b, off + j, none⟩ := by
  by_cases h : j = 0
  · subst h; simp [Addr.add]
  · simp [Addr.add, h]
theorem Sl.int {w : World} {B : Nat} {a : Option Addr} {k : IntKind} {zs : List Int} (h : Sl w B a (zs.map (Value.int k))) {i : Nat} (hi : i < zs.length) :
    ∃ b off, a = some ⟨b, off, none⟩ ∧ b < B ∧ ∀ j, j < zs.length → w.cell? ⟨b, off + j, none⟩ = some (.int k (zs.getD j 0)) := by
  obtain ⟨b, off, e, hb, hc⟩ := h.open_ (k := i) (by simpa using hi)
  refine ⟨b, off, e, hb, fun j hj => ?_⟩
  rw [hc j (by simpa using hj)]
  simp [hj]
theorem ret_int {k : IntKind} {a b : Int} (h : a = b) : Ending.returned (.int k a) = .returned (.int k b) := by rw [h]
theorem ret_bool {a b : Bool} (h : a = b) : Ending.returned (.bool a) = .returned (.bool b) := by rw [h]
end Go.Proofs.YtaghfmgeccapbaaGreat
namespace Go.Proofs.YtaghfmgeccapbaaGreat
open Go.RowKit

def EI (P : Program) (t e : TypeId) (size bytes : Nat) : Prop :=
  ∃ i z, P.underlying t = some (.slice e) ∧ P.info? e = some i ∧ i.zero = some z ∧ i.size = size ∧ i.bytes = bytes ∧ z.cells.size = size ∧ 0 < size

theorem EI.mk {P : Program} {t e : TypeId} {z : Value} {size bytes : Nat} (ht : P.underlying t = some (.slice e)) (h : (P.info? e).map (fun i => (i.zero, i.size, i.bytes)) = some (some z, size, bytes)) (hz : z.cells.size = size) (hs : 0 < size) : EI P t e size bytes := by
  obtain ⟨i, hi, h0, h1, h2⟩ := info_parts h
  exact ⟨i, z, ht, hi, h0, h1, h2, hz, hs⟩

section
variable {P : Program} {ops : Array Oper} {rest : List Oper} {o : Oper} {a : Act} {Q : Exit → Act → World → Prop}

theorem own_below {w w' : World} {base size n : Nat} {e : TypeId} {v : Value} {xs : List Value} (hown : w.ownsRow base e size v n xs) (hg : w.grownBy w' v.ownBlock) (hbase : base ≤ w.heap.size) : Below base w w' :=
  below_of_grown hg hbase fun k hk => (hown.lt k hk).1

def OwnR (w : World) (base : Nat) (e : TypeId) (size : Nat) (v : Value) (n : Nat) (xs : List Value) : Prop :=
  (n = 0 ∧ xs = [] ∧ ∃ A, v = .slice A 0 0) ∨ w.ownsRow base e size v n xs
theorem grown_any {w w' : World} (h : w.grownBy w' none) (row : Option Nat) : w.grownBy w' row := ⟨h.os, h.tape, h.output, h.size, fun k hk _ => h.block k hk (by simp)⟩

theorem run_appR (w : World) {t ty e : TypeId} {size bytes base n : Nat} {v : Value} {xs : List Value} (E : EI P t e size bytes) (hown : OwnR w base e size v n xs)
    (B : Nat) (A : Option Addr) (m c : Nat) (news : List Value) (hr : Sl w B A news) (hl : news.length = m * size) (h1 : ∀ u ∈ news, u.oneCell' = true)
    (h63 : n + m ≤ maxLen) (hbytes : (n + m) * bytes ≤ 140737488355328) (hbase : base ≤ w.heap.size) :
    ∃ v' w', (Builtin.append_ #[t, t] ty #[v, .slice A m c]).run P w = .ok v' w' ∧ OwnR w' base e size v' (n + m) (xs ++ news) ∧ w.grownBy w' v.ownBlock ∧ Below base w w' := by
  have E0 := E
  obtain ⟨i, z, ht, hi, hz, hsz, hby, hzs, hpos⟩ := E
  have hcells : ∀ ad, A = some ad → ∀ j u, news[j]? = some u → w.cell? (ad.add j) = some u := by
    intro ad had j u hj
    subst had
    have hjl : j < news.length := by
      apply Classical.byContradiction
      intro hge
      rw [List.getElem?_eq_none (by omega)] at hj
      cases hj
    obtain ⟨b, off, h0, _, hc⟩ := hr.open_ (k := j) hjl
    injection h0 with h0
    subst h0
    rw [List.getElem?_eq_getElem hjl] at hj
    injection hj with hj
    subst hj
    rw [addr_add]
    exact hc j hjl
  have hnil : A = none → news = [] := by
    intro hA
    apply Classical.byContradiction
    intro hne
    obtain ⟨b, off, h0, _⟩ := hr hne
    rw [hA] at h0
    cases h0
  have hm0 : news = [] → m = 0 := by
    intro h
    rw [h] at hl
    rcases Nat.eq_zero_or_pos m with h0 | h0
    · exact h0
    · have := Nat.mul_pos h0 hpos
      simp at hl
      omega
  by_cases hn : news = []
  · have hm := hm0 hn
    subst hn hm
    refine ⟨v, w, ?_, by simpa using hown, World.grownBy.refl _ _, Below.refl _ _⟩
    have hc0 : ∀ ad : Addr, (loadCells ad 0).run P w = .ok #[] w := fun ad => by simp [loadCells, loadCellsFrom]
    rcases hown with ⟨_, _, A0, rfl⟩ | ⟨_, ⟨rfl, _⟩ | ⟨g, cap, cur, rfl, _, _, hnc, _⟩⟩
    · cases A <;> cases A0 <;> simp [Builtin.append_, run_underlying ht, sizeOf, typeInfo, hi, Builtin.lenOf, Builtin.firstCells, storeCells, hc0]
    · cases A <;> simp [Builtin.append_, run_underlying ht, sizeOf, typeInfo, hi, Builtin.lenOf, Builtin.firstCells, hc0]
    · cases A <;> simp [Builtin.append_, run_underlying ht, sizeOf, typeInfo, hi, Builtin.lenOf, Builtin.firstCells, hnc, storeCells, hc0]
  · obtain ⟨ad, rfl⟩ : ∃ ad, A = some ad := by
      cases A with
      | none => exact absurd (hnil rfl) hn
      | some ad => exact ⟨ad, rfl⟩
    have hmp : 0 < m := by
      rcases Nat.eq_zero_or_pos m with h0 | h0
      · subst h0
        simp at hl
        exact absurd hl hn
      · exact h0
    rcases hown with ⟨rfl, rfl, A0, rfl⟩ | hown
    · have hb0 : m * bytes ≤ 140737488355328 := by simpa using hbytes
      have hm63 : m ≤ 9223372036854775807 := by simpa [maxLen] using h63
      obtain ⟨v', w', hrun, ho, hg, _⟩ := run_append_own (P := P) w base t ty e i z size bytes ht hi hz hsz hby hzs hpos (.slice none 0 0) 0 [] (World.ownsRow_nil w base e size) ad m c news hl (hcells ad rfl) h1 h63 hbytes hbase
      refine ⟨v', w', ?_, .inr ho, grown_any hg _, below_of_grown hg hbase (fun k hk => by cases hk)⟩
      cases A0 with
      | none => exact hrun
      | some s0 =>
        subst hsz hby
        have r1 := run_append_nil (P := P) w t ty e i z ht hi hz ad m c news hl (hcells ad rfl) hmp (by omega) (by omega)
        have r2 := run_append_grow (P := P) w t ty e i z ht hi hz s0 0 0 [] (by simp) (fun j u hj => by simp at hj) ad m c news hl (hcells ad rfl) (by omega) (by omega) (growslice_fits (by omega) hbytes)
        rw [hrun] at r1
        rw [r2]
        simp only [Nat.zero_add, Array.empty_append]
        exact r1.symm
    · obtain ⟨v', w', hrun, ho, hg, _⟩ := run_append_own (P := P) w base t ty e i z size bytes ht hi hz hsz hby hzs hpos v n xs hown ad m c news hl (hcells ad rfl) h1 h63 hbytes hbase
      exact ⟨v', w', hrun, .inr ho, hg, own_below hown hg hbase⟩

theorem wp_appR {K : Act → World → Prop} (w0 : World) (s x : Operand) (t : TypeId) (ho : o.op = .call { callee := .builtin .append, args := #[s, x], argTypes := #[t, t] })
    {e : TypeId} {size bytes : Nat} (E : EI P t e size bytes) (base : Nat) (v : Value) (n : Nat) (xs : List Value) (hs : a.eval s = v) (hown : OwnR w0 base e size v n xs)
    (B : Nat) (A : Option Addr) (m c : Nat) (news : List Value) (hx : a.eval x = .slice A m c) (hr : Sl w0 B A news) (hl : news.length = m * size) (h1 : ∀ u ∈ news, u.oneCell' = true)
    (h63 : n + m ≤ maxLen) (hbytes : (n + m) * bytes ≤ 140737488355328) (hbase : base ≤ w0.heap.size)
    (h : ∀ v' w', OwnR w' base e size v' (n + m) (xs ++ news) → w0.grownBy w' v.ownBlock → Below base w0 w' → K (a.put o.dst v') w') : o.wp P a w0 K Q := by
  obtain ⟨v', w', hrun, h2, h3, h4⟩ := run_appR (ty := o.type) w0 E hown B A m c news hr hl h1 h63 hbytes hbase
  unfold Oper.wp execOp
  simp only [ho, resolve, invoke, builtin, Sem.run_bind, Sem.run_pure, Result.andThen_ok, List.map_toArray, List.map_cons, List.map_nil, hs, hx, hrun]
  exact h v' w' h2 h3 h4
theorem app_slR (w0 : World) (hgd : o.guard = none) (s x : Operand) (t : TypeId) (ho : o.op = .call { callee := .builtin .append, args := #[s, x], argTypes := #[t, t] })
    {e : TypeId} {size bytes : Nat} (E : EI P t e size bytes) (base : Nat) (v : Value) (n : Nat) (xs : List Value) (hs : a.eval s = v) (hown : OwnR w0 base e size v n xs)
    (B : Nat) (A : Option Addr) (m c : Nat) (news : List Value) (hx : a.eval x = .slice A m c) (hr : Sl w0 B A news) (hl : news.length = m * size) (h1 : ∀ u ∈ news, u.oneCell' = true)
    (h63 : n + m ≤ maxLen) (hbytes : (n + m) * bytes ≤ 140737488355328) (hbase : base ≤ w0.heap.size)
    (h : ∀ v' w', OwnR w' base e size v' (n + m) (xs ++ news) → w0.grownBy w' v.ownBlock → Below base w0 w' → wpList P ops Q rest (a.put o.dst v') w') :
    wpList P ops Q (o :: rest) a w0 :=
  wpList_plain hgd fun _ hK => wp_appR w0 s x t ho E base v n xs hs hown B A m c news hx hr hl h1 h63 hbytes hbase fun v' w' h2 h3 h4 => hK _ _ (h v' w' h2 h3 h4)
end
end Go.Proofs.YtaghfmgeccapbaaGreat
namespace Go.Proofs.YtaghfmgeccapbaaGreat
open Go.RowKit

def lenV : Value → Nat | .slice _ n _ => n | _ => 0

def OwnL (w : World) (base : Nat) (e : TypeId) (k : IntKind) (v : Value) (l : List Int) : Prop := OwnR w base e 1 v l.length (l.map (Value.int k))

section
variable {w w' : World} {base : Nat} {e : TypeId} {size n : Nat} {v : Value} {xs : List Value}
theorem OwnR.form (h : OwnR w base e size v n xs) : ∃ a c, v = .slice a n c ∧ n ≤ c ∧ xs.length = n * size ∧ Sl w w.heap.size a xs := by
  rcases h with ⟨rfl, rfl, A, rfl⟩ | h
  · exact ⟨A, 0, rfl, Nat.le_refl _, by simp, Sl.nil⟩
  · have h' := h
    rcases h.2 with ⟨hv, hn⟩ | ⟨g, cap, cur, hv, _, hg, h1, _, _, htake⟩
    · subst hn
      have : xs = [] := List.length_eq_zero_iff.1 (by simpa using h.1)
      subst this
      exact ⟨none, 0, hv, Nat.le_refl _, by simp, Sl.nil⟩
    · refine ⟨_, cap, hv, h1, h.1, ?_⟩
      rw [hv] at h'
      exact Sl.of_own h'
theorem OwnR.alloc (h : OwnR w base e size v n xs) (o : Obj) : OwnR (w.alloc o) base e size v n xs := h.imp id fun h => World.ownsRow.alloc h o
theorem OwnR.drew (h : OwnR w base e size v n xs) : OwnR w.drew base e size v n xs := h
theorem OwnR.drewN (h : OwnR w base e size v n xs) (m : Nat) : OwnR (w.drewN m) base e size v n xs := h
theorem OwnR.grown {row : Option Nat} (h : OwnR w base e size v n xs) (hg : w.grownBy w' row) (hne : v.ownBlock = none ∨ v.ownBlock ≠ row) : OwnR w' base e size v n xs := h.imp id fun h => World.ownsRow.kept h hg hne
theorem OwnR.below (h : OwnR w base e size v n xs) (hb : Below w.heap.size w w') : OwnR w' base e size v n xs := by
  refine h.imp id fun h => ⟨h.1, ?_⟩
  rcases h.2 with h1 | ⟨g, cap, cur, hv, hb0, hg, h1⟩
  · exact .inl h1
  · exact .inr ⟨g, cap, cur, hv, hb0, Bk.below hg hb (Bk.lt hg), h1⟩
theorem OwnR.mono {base' : Nat} (h : OwnR w base e size v n xs) (hb : base' ≤ base) : OwnR w base' e size v n xs := by
  refine h.imp id fun h => ⟨h.1, ?_⟩
  rcases h.2 with h1 | ⟨g, cap, cur, hv, hb0, h1⟩
  · exact .inl h1
  · exact .inr ⟨g, cap, cur, hv, by omega, h1⟩
theorem OwnR.zero (w : World) (base : Nat) (e : TypeId) (size : Nat) (A : Option Addr) : OwnR w base e size (.slice A 0 0) 0 [] := .inl ⟨rfl, rfl, A, rfl⟩
end

section
variable {w w' : World} {base : Nat} {e : TypeId} {k : IntKind} {v : Value} {l : List Int}
theorem OwnL.form (h : OwnL w base e k v l) : ∃ a c, v = .slice a l.length c ∧ l.length ≤ c ∧ Sl w w.heap.size a (l.map (Value.int k)) := by
  obtain ⟨a, c, h1, h2, _, h3⟩ := OwnR.form h
  exact ⟨a, c, h1, h2, h3⟩
theorem OwnL.sl {a : Option Addr} {n c : Nat} (h : OwnL w base e k (.slice a n c) l) : Sl w w.heap.size a (l.map (Value.int k)) := by
  obtain ⟨a', c', hv, _, hs⟩ := h.form
  injection hv with h1 h2 h3
  subst h1
  exact hs
theorem OwnL.len {a : Option Addr} {n c : Nat} (h : OwnL w base e k (.slice a n c) l) : n = l.length ∧ l.length ≤ c := by
  obtain ⟨a', c', hv, hc, _⟩ := h.form
  injection hv with h1 h2 h3
  subst h3
  exact ⟨h2, hc⟩
theorem OwnL.alloc (h : OwnL w base e k v l) (o : Obj) : OwnL (w.alloc o) base e k v l := OwnR.alloc h o
theorem OwnL.drew (h : OwnL w base e k v l) : OwnL w.drew base e k v l := h
theorem OwnL.drewN (h : OwnL w base e k v l) (n : Nat) : OwnL (w.drewN n) base e k v l := h
theorem OwnL.grown {row : Option Nat} (h : OwnL w base e k v l) (hg : w.grownBy w' row) (hne : v.ownBlock = none ∨ v.ownBlock ≠ row) : OwnL w' base e k v l := OwnR.grown h hg hne
theorem OwnL.below (h : OwnL w base e k v l) (hb : Below w.heap.size w w') : OwnL w' base e k v l := OwnR.below h hb
theorem OwnL.mono {base' : Nat} (h : OwnL w base e k v l) (hb : base' ≤ base) : OwnL w base' e k v l := OwnR.mono h hb
theorem OwnL.nil (w : World) (base : Nat) (e : TypeId) (k : IntKind) (A : Option Addr) : OwnL w base e k (.slice A 0 0) [] := OwnR.zero w base e 1 A
end

def RetL (k : IntKind) (w : World) (l : List Int) (e : Ending) (w' : World) : Prop :=
  ∃ a c, e = .returned (.slice a l.length c) ∧ l.length ≤ c ∧ Sl w' w'.heap.size a (l.map (Value.int k)) ∧ Below w.heap.size w w'
theorem RetL.of {k : IntKind} {w w' : World} {l : List Int} {e : Ending} {base : Nat} {t : TypeId} {v : Value} (he : e = .returned v) (ho : OwnL w' base t k v l) (hb : Below w.heap.size w w') : RetL k w l e w' := by
  obtain ⟨a, c, rfl, hc, hs⟩ := ho.form
  exact ⟨a, c, he, hc, hs, hb⟩
def RetV (w : World) (v : Value) (e : Ending) (w' : World) : Prop := e = .returned v ∧ Below w.heap.size w w'

section
variable {P : Program} {ops : Array Oper} {rest : List Oper} {o : Oper} {a : Act} {Q : Exit → Act → World → Prop}
theorem int_cells (k : IntKind) (l : List Int) : ∀ u ∈ l.map (Value.int k), u.oneCell' = true := by
  intro u hu
  simp at hu
  obtain ⟨z, _, rfl⟩ := hu
  rfl
theorem wp_appL {K : Act → World → Prop} (w0 : World) (s x : Operand) (t : TypeId) (ho : o.op = .call { callee := .builtin .append, args := #[s, x], argTypes := #[t, t] })
    {e : TypeId} {bytes : Nat} (E : EI P t e 1 bytes) (hb8 : bytes ≤ 8) (base : Nat) (k : IntKind) (v : Value) (l : List Int) (hs : a.eval s = v) (hown : OwnL w0 base e k v l)
    (B : Nat) (A : Option Addr) (m c : Nat) (news : List Int) (hx : a.eval x = .slice A m c) (hm : m = news.length) (hr : Sl w0 B A (news.map (Value.int k)))
    (hl : l.length ≤ 1099511627776) (hl2 : news.length ≤ 1099511627776) (hbase : base ≤ w0.heap.size)
    (h : ∀ v' w', OwnL w' base e k v' (l ++ news) → w0.grownBy w' v.ownBlock → Below base w0 w' → K (a.put o.dst v') w') : o.wp P a w0 K Q := by
  subst hm
  refine wp_appR w0 s x t ho E base v l.length _ hs hown B A news.length c _ hx hr (by simp) (int_cells k news) (by unfold maxLen; omega) ?_ hbase ?_
  · have : (l.length + news.length) * bytes ≤ (l.length + news.length) * 8 := Nat.mul_le_mul_left _ hb8
    omega
  · intro v' w' ho' hg hbw
    refine h v' w' ?_ hg hbw
    unfold OwnL
    simpa using ho'
theorem appL_sl (w0 : World) (hgd : o.guard = none) (s x : Operand) (t : TypeId) (ho : o.op = .call { callee := .builtin .append, args := #[s, x], argTypes := #[t, t] })
    {e : TypeId} {bytes : Nat} (E : EI P t e 1 bytes) (hb8 : bytes ≤ 8) (base : Nat) (k : IntKind) (v : Value) (l : List Int) (hs : a.eval s = v) (hown : OwnL w0 base e k v l)
    (B : Nat) (A : Option Addr) (m c : Nat) (news : List Int) (hx : a.eval x = .slice A m c) (hm : m = news.length) (hr : Sl w0 B A (news.map (Value.int k)))
    (hl : l.length ≤ 1099511627776) (hl2 : news.length ≤ 1099511627776) (hbase : base ≤ w0.heap.size)
    (h : ∀ v' w', OwnL w' base e k v' (l ++ news) → w0.grownBy w' v.ownBlock → Below base w0 w' → wpList P ops Q rest (a.put o.dst v') w') :
    wpList P ops Q (o :: rest) a w0 :=
  wpList_plain hgd fun _ hK => wp_appL w0 s x t ho E hb8 base k v l hs hown B A m c news hx hm hr hl hl2 hbase fun v' w' h2 h3 h4 => hK _ _ (h v' w' h2 h3 h4)
theorem appL_one (w0 : World) (hgd : o.guard = none) (s x : Operand) (t : TypeId) (ho : o.op = .call { callee := .builtin .append, args := #[s, x], argTypes := #[t, t] })
    {e : TypeId} {bytes : Nat} (E : EI P t e 1 bytes) (hb8 : bytes ≤ 8) (base : Nat) (k : IntKind) (v : Value) (l : List Int) (z : Int) (hs : a.eval s = v) (hown : OwnL w0 base e k v l)
    (hx : a.eval x = .slice (some ⟨w0.heap.size, 0, none⟩) 1 1) (hl : l.length ≤ 1099511627776) (hbase : base ≤ w0.heap.size)
    (h : ∀ v' w', OwnL w' base e k v' (l ++ [z]) → w0.grownBy w' v.ownBlock → Below base w0 w' → wpList P ops Q rest (a.put o.dst v') w') :
    wpList P ops Q (o :: rest) a (w0.alloc (.cells #[.int k z] e)) := by
  refine appL_sl (w0.alloc (.cells #[.int k z] e)) hgd s x t ho E hb8 base k v l hs (hown.alloc _) _ _ 1 1 [z] hx rfl (Sl.lit w0 e #[.int k z]) hl (by simp) (Nat.le_trans hbase (by simp)) ?_
  intro v' w' ho' hg hbw
  refine h v' w' ho' ⟨hg.os, hg.tape, hg.output, Nat.le_trans (by simp) hg.size, fun k hk hne => (hg.block k (by simp; omega) hne).trans (Below.heap_alloc w0 _ k hk)⟩ ?_
  exact ((Below.refl base w0).alloc hbase _).trans hbw
end
end Go.Proofs.YtaghfmgeccapbaaGreat
set_option maxRecDepth 100000
namespace Go.Av
open Go.Proofs Go.RowKit Go.Proofs.YtaghfmgeccapbaaGreat
def nw (F : Nat → Nat → Prop) (w w' : World) : Nat → Nat → Prop := fun b o => F b o ∨ (w.heap.size ≤ b ∧ b < w'.heap.size)
theorem ext_nw {F : Nat → Nat → Prop} {w w' : World} (hlt : Lt F w) (hb : Below w.heap.size w w') : Ext (fun _ => False) F w (nw F w w') w' := by
  refine ⟨hb.os, hb.tape, hb.output, hb.size, fun b h _ => hb.block b h, fun b o h => .inl h, fun b o h => ?_, fun b es c hf hm => (hb.block b (hlt b 0 hf)).trans hm⟩
  unfold World.cell?
  rw [hb.block b (hlt b o h)]
theorem lt_nw {F : Nat → Nat → Prop} {w w' : World} (hlt : Lt F w) (hb : Below w.heap.size w w') : Lt (nw F w w') w' := by
  rintro b o (h | h)
  · exact Nat.lt_of_lt_of_le (hlt b o h) hb.size
  · exact h.2
theorem Den0.grow {F F' : Nat → Nat → Prop} {w : World} {v : Value} {d : D} (h : Den0 F w v d) (hF : ∀ b o, F b o → F' b o) : Den0 F' w v d :=
  h.ext (S := fun _ => False) ⟨rfl, rfl, rfl, Nat.le_refl _, fun _ _ _ => rfl, hF, fun _ _ _ => rfl, fun _ _ _ _ hm => hm⟩
def RetD (F : Nat → Nat → Prop) (w : World) (d : D) (e : Ending) (w' : World) : Prop := ∃ v, e = .returned v ∧ Below w.heap.size w w' ∧ ∀ c ν, Den c ν (nw F w w') w' v d
theorem RetD.ret [Gs] {P : Program} {μ : Mu} {F : Nat → Nat → Prop} {w w' : World} {d : D} {e : Ending} (hlt : Lt F w) (h : RetD F w d e w') : Ret P 0 μ F w d [] [] e w' := by
  obtain ⟨v, rfl, hb, hv⟩ := h
  refine ⟨v, nw F w w', fun _ _ => none, rfl, (ext_nw hlt hb).weaken (fun _ _ h => h.elim), lt_nw hlt hb, fun b o h => h.imp id fun h => .inl h.1, .inl ⟨rfl, hv, rooms_nil⟩, fun j i g h => ?_, fun j i j' i' g h => ?_, fun i bx hi => absurd hi (Nat.not_lt_zero i)⟩
  · cases h
  · cases h
theorem RetD.of {F : Nat → Nat → Prop} {w w' : World} {v : Value} {d : D} (hb : Below w.heap.size w w') (hv : Den0 (nw F w w') w' v d) : RetD F w d (.returned v) w' := ⟨v, rfl, hb, fun _ _ => .pure _ _ hv⟩
theorem Ret.retD [Gs] {P : Program} {μ : Mu} {F : Nat → Nat → Prop} {w w' : World} {d : D} {r : List Room} {e : Ending} (h : Ret P 0 μ F w d r [] e w') : RetD F w d e w' := by
  obtain ⟨v, F', nc, rfl, hE, hlt, hn, hv, _⟩ := h
  refine ⟨v, rfl, ⟨hE.os, hE.tape, hE.output, hE.size, fun b hb => hE.block b hb (S_zero _ b)⟩, ?_⟩
  rcases hv with ⟨_, hv, _⟩ | ⟨h1, _⟩
  · exact fun c ν => (hv c ν).ext (S := fun _ => False) ⟨rfl, rfl, rfl, Nat.le_refl _, fun _ _ _ => rfl, fun b o h => (hn b o h).imp id fun h' => ⟨h'.resolve_right (C_zero _ b), hlt b o h⟩, fun _ _ _ => rfl, fun _ _ _ _ hm => hm⟩
  · simp at h1
theorem list_sl {F : Nat → Nat → Prop} {w : World} {v : Value} {es : List D} {sz : Nat} (hlt : Lt F w) (h : Den0 F w v (.list es)) (hs : ∀ e ∈ es, (dcells e).length = sz) :
    ∃ a c vs, v = .slice a es.length c ∧ es.length ≤ c ∧ vs.length = es.length * sz ∧ Sl w w.heap.size a vs ∧ (∀ u ∈ vs, u.oneCell' = true) ∧ ∀ (i : Nat) (v : Value) (x : D), vs[i]? = some v → (flat es)[i]? = some x → Den0 F w v x := by
  cases h with
  | list a n c sz' es vs h1 h2 h3 h4 h5 h6 h7 =>
    subst h1
    have hl : vs.length = es.length * sz := by
      rcases es with _ | ⟨e0, r0⟩
      · simpa using h5
      · rw [h5, ← h4 e0 (by simp), ← hs e0 (by simp)]
    refine ⟨a, c, vs, rfl, h2, hl, ?_, ?_, h7⟩
    · intro hne
      rcases h6 with h6 | ⟨b, off, ha, hc⟩
      · exact absurd h6 hne
      · refine ⟨b, off, ha, ?_, fun i hi => (hc i _ (List.getElem?_eq_getElem hi)).2.1⟩
        have := (hc 0 _ (List.getElem?_eq_getElem (List.length_pos_iff.2 hne))).1
        exact hlt _ _ this
    · intro u hu
      rcases h6 with h6 | ⟨b, off, ha, hc⟩
      · rw [h6] at hu; cases hu
      · obtain ⟨i, hi⟩ := List.mem_iff_getElem?.1 hu
        exact (hc i _ hi).2.2
theorem one_den {c : Nat → Nat} {ν : Nat → Nat → Nat} {F : Nat → Nat → Prop} {w : World} {vals : List Value} {d : D} (hl : vals.length = [d].length) (h : ∀ (i : Nat) (v : Value) (x : D), vals[i]? = some v → [d][i]? = some x → Den c ν F w v x) : ∃ v, vals = [v] ∧ Den c ν F w v d := by
  match vals, hl with
  | [v], _ => exact ⟨v, rfl, h 0 v d rfl rfl⟩

def noPtr : D → Bool
  | .int _ _ | .str _ | .bool _ | .con _ => true
  | _ => false
theorem noPtr_den {F F' : Nat → Nat → Prop} {w w' : World} {v : Value} {x : D} (hx : noPtr x = true) (h : Den0 F w v x) : Den0 F' w' v x := by
  cases h with
  | int k n => exact .int k n
  | str l => exact .str l
  | bool b => exact .bool b
  | con v h => exact .con v h
  | list => cases hx
  | agg => cases hx
  | fix => cases hx
  | iface => cases hx
  | func => cases hx
  | imap => cases hx
def Keep (F G : Nat → Nat → Prop) (w : World) (es : List D) : Prop := ∀ (W : World) (v : Value) (x : D), x ∈ flat es → Below w.heap.size w W → Den0 F w v x → Den0 (nw G w W) W v x
theorem Keep.leaf {F G : Nat → Nat → Prop} {w : World} {es : List D} (h : ∀ x ∈ flat es, noPtr x = true) : Keep F G w es := fun W v x hx _ hd => noPtr_den (h x hx) hd
end Go.Av
namespace Go.Proofs.YtaghfmgeccapbaaGreat
open Go.RowKit

abbrev Ge (w w' : World) : Prop := Below w.heap.size w w'
section
variable {w w' w'' : World} {o o' : Obj}
theorem Ge.new (h : Ge w w') (o : Obj) : Ge w (w'.alloc o) := Below.alloc h h.size o
theorem Ge.drew (h : Ge w w') : Ge w w'.drew := Below.drew h
theorem Ge.drewN (h : Ge w w') (n : Nat) : Ge w (w'.drewN n) := below_drewN h n
theorem Ge.tr (h : Ge w w') (h' : Ge w' w'') : Ge w w'' := Below.trans h (h'.mono h.size)
end

section
variable {P : Program} {ops : Array Oper} {rest : List Oper} {o : Oper} {a : Act} {Q : Exit → Act → World → Prop}
end
end Go.Proofs.YtaghfmgeccapbaaGreat
namespace Go.Av
open Go.Proofs Go.RowKit Go.Proofs.YtaghfmgeccapbaaGreat
theorem den_ge {F : Nat → Nat → Prop} {w W : World} {v : Value} {d : D} (h : Den0 F w v d) (hlt : Lt F w) (hb : Ge w W) : Den0 F W v d :=
  h.ext (S := fun _ => False) ⟨hb.os, hb.tape, hb.output, hb.size, fun b h _ => hb.block b h, fun b o h => h, fun b o h => by unfold World.cell?; rw [hb.block b (hlt b o h)], fun b es c hf hm => (hb.block b (hlt b 0 hf)).trans hm⟩
theorem lt_ge {F : Nat → Nat → Prop} {w W : World} (hlt : Lt F w) (hb : Ge w W) : Lt F W := fun b o h => Nat.lt_of_lt_of_le (hlt b o h) hb.size
def nx (F : Nat → Nat → Prop) (m : Nat) (w' : World) : Nat → Nat → Prop := fun b o => F b o ∨ (m ≤ b ∧ b < w'.heap.size)
theorem nx_keep {F : Nat → Nat → Prop} {w W W2 : World} {m m' A : Nat} {v : Value} {d : D} (h : Den0 (nx F m W) W v d) (hlt : Lt F w) (hW : w.heap.size ≤ W.heap.size) (hA : w.heap.size ≤ A) (hA2 : A < m) (hm : m' ≤ m) (hg : W.grownBy W2 (some A)) : Den0 (nx F m' W2) W2 v d := by
  have hne : ∀ b o, nx F m W b o → b < W.heap.size ∧ b ≠ A := by
    rintro b o (h | h)
    · have := hlt b o h
      exact ⟨by omega, by omega⟩
    · exact ⟨h.2, by omega⟩
  refine h.ext (S := fun b => b = A) ⟨hg.os, hg.tape, hg.output, hg.size, fun b h hn => hg.block b h (fun e => hn (by injection e)), fun b o h => ?_, fun b o h => ?_, fun b es c hf hm => (hg.block b (hne b 0 hf).1 (fun e => (hne b 0 hf).2 (by injection e))).trans hm⟩
  · exact h.imp id fun h => ⟨by omega, Nat.lt_of_lt_of_le h.2 hg.size⟩
  · unfold World.cell?
    rw [hg.block b (hne b o h).1 (fun e => (hne b o h).2 (by injection e))]
theorem grown_refl (w : World) (r : Option Nat) : w.grownBy w r := ⟨rfl, rfl, rfl, Nat.le_refl _, fun _ _ _ => rfl⟩
theorem grown_ge {a w w' : World} {r : Option Nat} (h : a.grownBy w r) (k : Ge w w') : a.grownBy w' r :=
  ⟨k.os.trans h.os, k.tape.trans h.tape, k.output.trans h.output, Nat.le_trans h.size k.size, fun b hb hne => (k.block b (Nat.lt_of_lt_of_le hb h.size)).trans (h.block b hb hne)⟩
theorem ge_put {w w' : World} (h : Ge w w') {p : Addr} (hp : w.heap.size ≤ p.block) (v : Value) : Ge w (w'.setCell p v) := Below.setCell h hp v
theorem below_of_grown_row {w W W2 : World} {B : Nat} (h : Ge w W) (hg : W.grownBy W2 (some B)) (hB : w.heap.size ≤ B) : Ge w W2 :=
  ⟨hg.os.trans h.os, hg.tape.trans h.tape, hg.output.trans h.output, Nat.le_trans h.size hg.size, fun b hb => (hg.block b (Nat.lt_of_lt_of_le hb h.size) (fun e => by injection e with e; omega)).trans (h.block b hb)⟩
end Go.Av
namespace Go.Av
open Go.Proofs Go.RowKit Go.Proofs.YtaghfmgeccapbaaGreat
def RowN (F : Nat → Nat → Prop) (es : List D) (g : Nat) (wr : World) : Prop :=
  ∃ cur : Array Value, wr.heap[g]? = some (.cells cur 54 (0, 0)) ∧ ∀ (m : Nat) (x : D), (flat es)[m]? = some x → ∃ v : Value, cur[m]? = some v ∧ v.oneCell' = true ∧ Den0 (nx F (g + 1) wr) wr v x
theorem RowN.put {F : Nat → Nat → Prop} {es : List D} {g m : Nat} {w wr : World} {v : Value} {x : D} (h : RowN F es g wr) (hlt : Lt F w) (hw : w.heap.size ≤ wr.heap.size) (hg : w.heap.size ≤ g) (hx : (flat es)[m]? = some x) (h1 : v.oneCell' = true) (hv : Den0 (nx F (g + 1) wr) wr v x) : RowN F es g (wr.setCell ⟨g, m, none⟩ v) := by
  obtain ⟨cur, h2, h3⟩ := h
  have hG : wr.grownBy (wr.setCell ⟨g, m, none⟩ v) (some g) := grown_put (grown_refl wr _) rfl v
  have keep : ∀ {u y}, Den0 (nx F (g + 1) wr) wr u y → Den0 (nx F (g + 1) (wr.setCell ⟨g, m, none⟩ v)) (wr.setCell ⟨g, m, none⟩ v) u y := fun hu => nx_keep hu hlt hw hg (Nat.lt_succ_self g) (Nat.le_refl _) hG
  refine ⟨cur.setIfInBounds m v, heap_setCell_same wr g m cur 54 v h2, fun m' x' hx' => ?_⟩
  obtain ⟨u, h4, h5, h6⟩ := h3 m' x' hx'
  by_cases hm : m' = m
  · subst hm
    rw [hx] at hx'
    obtain rfl := Option.some.inj hx'
    have hlt' := (Array.getElem?_eq_some_iff.1 h4).1
    exact ⟨v, by simp [hlt'], h1, keep hv⟩
  · exact ⟨u, by rw [Array.getElem?_setIfInBounds_ne (fun e => hm e.symm)]; exact h4, h5, keep h6⟩
theorem RowN.cell {F : Nat → Nat → Prop} {es : List D} {g : Nat} {wr : World} (h : RowN F es g wr) {m : Nat} {x : D} (hx : (flat es)[m]? = some x) : ∃ v, wr.cell? ⟨g, m, none⟩ = some v ∧ v.oneCell' = true ∧ Den0 (nx F (g + 1) wr) wr v x ∧ wr.frozen? ⟨g, m, none⟩ = false := by
  obtain ⟨cur, h1, h2⟩ := h
  obtain ⟨v, h3, h4, h5⟩ := h2 m x hx
  exact ⟨v, by rw [cell_of_row wr g m cur 54 (0, 0) h1]; exact h3, h4, h5, frozen_of_row wr g m cur 54 h1⟩
end Go.Av
namespace Go.Av
structure At where
  sp : List UInt8
  nm : List UInt8
  vl : List UInt8
  deriving DecidableEq
structure Nd where
  p : Int
  k : Int
  sp : List UInt8
  nm : List UInt8
  at_ : List At
  st : List (List UInt8)
  tx : List UInt8
  deriving DecidableEq
def At.d (a : At) : D := .agg [.str a.sp, .str a.nm, .str a.vl]
def Nd.d (n : Nd) : D := .agg [.int .i64 n.p, .int .i64 n.k, .str n.sp, .str n.nm, .list (n.at_.map At.d), .list (n.st.map .str), .str n.tx]
theorem getD_map {α : Type} {xs : List α} {f : α → D} {i : Nat} {x : α} (h : xs[i]? = some x) : (xs.map f).getD i .bad = f x := by
  simp [List.getD, h]
theorem some_at {α : Type} {xs : List α} {i : Nat} (h : i < xs.length) : ∃ x, xs[i]? = some x := ⟨_, List.getElem?_eq_getElem h⟩
theorem lenM {α : Type} (xs : List α) (f : α → D) : ((xs.map f).length : Int) = xs.length := by simp
theorem lenM0 {α : Type} (xs : List α) (f : α → D) : (xs.map f).length = xs.length := by simp
theorem wrapS (i : Nat) (h : i ≤ 140737488355328) : IntKind.i64.wrap ((i : Int) + 1) = ((i + 1 : Nat) : Int) := by
  rw [wrap64 _ (by omega) (by omega)]
  omega
def Small (ns : List Nd) : Prop := ns.length ≤ 10000 ∧ ∀ n ∈ ns, n.at_.length ≤ 1000000 ∧ n.st.length ≤ 1000000
end Go.Av
namespace Go.Av
def kAt (ns : List Nd) (i : Nat) : Int := match ns[i]? with | some n => n.k | none => 0
def pAt (ns : List Nd) (i : Nat) : Int := match ns[i]? with | some n => n.p | none => 0
def rowL (ns : List Nd) (key : Int) : Nat → List Int
  | 0 => []
  | k + 1 => if kAt ns k = 1 ∧ pAt ns k = key then rowL ns key k ++ [(k : Int)] else rowL ns key k
def elB (ns : List Nd) (n : Int) : Bool := decide (0 ≤ n) && (decide (n < ns.length) && kAt ns n.toNat == 1)
def rowI (ns : List Nd) (n : Int) : List Int := if elB ns n = true then rowL ns (pAt ns n.toNat) (n.toNat + 1) else []
def parI (ns : List Nd) (n : Int) : Int × Bool := if elB ns n = true ∧ 0 ≤ pAt ns n.toNat then (pAt ns n.toNat, true) else (0, false)
def ahdI (ns : List Nd) (n : Int) : Int × Bool := if elB ns n = true then (match (rowL ns (pAt ns n.toNat) n.toNat).getLast? with | some a => (a, true) | none => (0, false)) else (0, false)
end Go.Av
namespace Go.Proofs.YtaghfmgeccapbaaGreat

def beg (c : Int) : Option (Int × Nat × Int × Int) :=
  if c < 128 then some (c, 0, 128, 191)
  else if 194 ≤ c ∧ c ≤ 223 then some (c % 32, 1, 128, 191)
  else if c = 224 then some (0, 2, 160, 191)
  else if c = 237 then some (13, 2, 128, 159)
  else if 224 < c ∧ c ≤ 239 then some (c % 16, 2, 128, 191)
  else if c = 240 then some (0, 3, 144, 191)
  else if c = 244 then some (4, 3, 128, 143)
  else if 240 < c ∧ c < 244 then some (c % 8, 3, 128, 191)
  else none

def goOn : Nat → Int → Int → Int → List Int → Nat → Int × Nat
  | 0, ch, _, _, _, k => (ch, k)
  | _ + 1, _, _, _, [], k => (65533, k)
  | n + 1, ch, lo, up, c :: r, k => if c < lo ∨ up < c then (65533, k) else goOn n (ch * 64 + c % 64) 128 191 r (k + 1)

def firstOf (zs : List Int) : Int × Nat :=
  match zs with
  | [] => (65533, 1)
  | c :: r => match beg c with
    | none => (65533, 1)
    | some (ch, need, lo, up) => goOn need ch lo up r 1

def charsN : Nat → List Int → List Int
  | 0, _ => []
  | _ + 1, [] => []
  | n + 1, z :: zs => (firstOf (z :: zs)).1 :: charsN n ((z :: zs).drop (firstOf (z :: zs)).2)

def rawChars (zs : List Int) : List Int := charsN zs.length zs
def rightC (c : Int) : Bool := decide (0 ≤ c ∧ c ≤ 1114111 ∧ ¬ (55296 ≤ c ∧ c ≤ 57343))

end Go.Proofs.YtaghfmgeccapbaaGreat
namespace Go.Proofs.YtaghfmgeccapbaaGreat
open Go.RowKit

theorem rightC_true {n : Int} : rightC n = true ↔ 0 ≤ n ∧ n ≤ 1114111 ∧ ¬ (55296 ≤ n ∧ n ≤ 57343) := by unfold rightC; rw [decide_eq_true_iff]
theorem rightC_false {n : Int} : rightC n = false ↔ ¬ (0 ≤ n ∧ n ≤ 1114111 ∧ ¬ (55296 ≤ n ∧ n ≤ 57343)) := by unfold rightC; rw [decide_eq_false_iff_not]

theorem rRight_any (w : World) (n : Int) : Calls Tryz.prog 100 #[.int .i64 n] w fun e w' => e = .returned (.bool (rightC n)) ∧ w = w' := by
  rcases (by omega : n < 0 ∨ 1114111 < n ∨ (0 ≤ n ∧ n < 55296) ∨ (55296 ≤ n ∧ n ≤ 57343) ∨ (57343 < n ∧ n ≤ 1114111)) with h | h | ⟨h, h'⟩ | ⟨h, h'⟩ | ⟨h, h'⟩
  · have hq : Hid (rightC n = false) := rightC_false.2 (by omega)
    go_enter Tryz.func100, Tryz.ntmps100
    go_wp2
    go_ret
    exact ⟨by rw [hq.out]; rfl, rfl⟩
  · have hq : Hid (rightC n = false) := rightC_false.2 (by omega)
    have h0 : ¬ n < 0 := by omega
    go_enter Tryz.func100, Tryz.ntmps100
    go_wp2
    go_ret
    exact ⟨by rw [hq.out]; rfl, rfl⟩
  · have hq : Hid (rightC n = true) := rightC_true.2 (by omega)
    go_enter Tryz.func100, Tryz.ntmps100
    go_wp2
    go_ret
    exact ⟨by rw [hq.out]; rfl, rfl⟩
  · have hq : Hid (rightC n = false) := rightC_false.2 (by omega)
    have hd : decide (n < 55296) = false := by simp; omega
    have hd2 : decide (57343 < n) = false := by simp; omega
    go_enter Tryz.func100, Tryz.ntmps100
    go_wp2
    go_ret
    exact ⟨by rw [hq.out]; rfl, rfl⟩
  · have hq : Hid (rightC n = true) := rightC_true.2 (by omega)
    go_enter Tryz.func100, Tryz.ntmps100
    go_wp2
    go_ret
    exact ⟨by rw [hq.out]; rfl, rfl⟩

def rPut (n : Int) : List Int :=
  if n < 128 then [n] else if n < 2048 then [192 + n / 64, 128 + n % 64] else if n < 65536 then [224 + n / 4096, 128 + n / 64 % 64, 128 + n % 64] else [240 + n / 262144, 128 + n / 4096 % 64, 128 + n / 64 % 64, 128 + n % 64]
theorem RetL.lit {k : IntKind} {w : World} {t : TypeId} {l : List Int} {cs : Array Value} {n c : Nat} (h : cs = (l.map (Value.int k)).toArray) (hn : n = l.length) (hc : c = l.length) :
    RetL k w l (.returned (.slice (some ⟨w.heap.size, 0, none⟩) n c)) (w.alloc (.cells cs t)) := by
  subst h hn hc
  refine ⟨_, _, rfl, Nat.le_refl _, ?_, (Below.refl _ w).alloc (Nat.le_refl _) _⟩
  have := Sl.lit w t (l.map (Value.int k)).toArray
  simpa using this

theorem rPut_any (w : World) (n : Int) (h0 : 0 ≤ n) (h1 : n < 1114112) : Calls Tryz.prog 140 #[.int .i64 n] w (RetL .u8 w (rPut n)) := by
  rcases (by omega : n < 128 ∨ (128 ≤ n ∧ n < 2048) ∨ (2048 ≤ n ∧ n < 65536) ∨ 65536 ≤ n) with h | ⟨h, h'⟩ | ⟨h, h'⟩ | h
  · have hq : Hid (rPut n = [n]) := by show _ = _; unfold rPut; rw [if_pos h]
    go_enter Tryz.func140, Tryz.ntmps140
    go_wp2
    go_ret
    rw [hq.out]
    exact RetL.lit (by simp) rfl rfl
  · have hq : Hid (rPut n = [192 + n / 64, 128 + n % 64]) := by show _ = _; unfold rPut; rw [if_neg (by omega), if_pos (by omega)]
    go_enter Tryz.func140, Tryz.ntmps140
    go_wp2
    go_ret
    rw [hq.out]
    exact RetL.lit (by simp) rfl rfl
  · have hq : Hid (rPut n = [224 + n / 4096, 128 + n / 64 % 64, 128 + n % 64]) := by show _ = _; unfold rPut; rw [if_neg (by omega), if_neg (by omega), if_pos (by omega)]
    go_enter Tryz.func140, Tryz.ntmps140
    go_wp2
    go_ret
    rw [hq.out]
    exact RetL.lit (by simp) rfl rfl
  · have hq : Hid (rPut n = [240 + n / 262144, 128 + n / 4096 % 64, 128 + n / 64 % 64, 128 + n % 64]) := by show _ = _; unfold rPut; rw [if_neg (by omega), if_neg (by omega), if_neg (by omega)]
    go_enter Tryz.func140, Tryz.ntmps140
    go_wp2
    go_ret
    rw [hq.out]
    exact RetL.lit (by simp) rfl rfl
end Go.Proofs.YtaghfmgeccapbaaGreat
namespace Go.Proofs.YtaghfmgeccapbaaGreat
open Go.RowKit

def rHead : Nat → Int | 2 => 192 | 3 => 224 | 4 => 240 | _ => 0
def rFold : Int → List Int → Int
  | n, [] => n
  | n, z :: r => rFold (64 * n + z - 128) r
def rTold (zs : List Int) : Int := match zs with | [] => 0 | z :: r => rFold (z - rHead (r.length + 1)) r

set_option maxHeartbeats 1000000 in
theorem told_any (w : World) (B : Nat) (a : Option Addr) (n c : Nat) (zs : List Int) (hB : B ≤ w.heap.size) (hz : ∀ i, i < zs.length → 0 ≤ zs.getD i 0 ∧ zs.getD i 0 < 256) (hn : n = zs.length) (h0 : 0 < zs.length) (h4 : zs.length ≤ 4)
    (hs : Sl w B a (zs.map (Value.int .u8))) : Calls Tryz.prog 125 #[.slice a n c] w (RetV w (.int .i64 (rTold zs))) := by
  subst hn
  obtain ⟨b, off, rfl, hb, hcell⟩ := hs.int h0
  have hbw : b < w.heap.size := by omega
  rcases (by omega : zs.length = 1 ∨ zs.length = 2 ∨ zs.length = 3 ∨ zs.length = 4) with hl | hl | hl | hl
  · match zs, hl with
    | [z0], _ =>
      have c0 := hcell 0 (by simp)
      have b0 := hz 0 (by simp)
      simp at c0 b0
      obtain ⟨l0, u0⟩ := b0
      clear hcell hz hs hl
      go_enter Tryz.func125, Tryz.ntmps125
      go_wp2_with fail
      go_quiet (fail)
      go_wp2_with fail
      refine wp_loop_rounds 1 ?_
      repeat any_goals (rw [rounds_succ]; go_wp2_with fail)
      go_ret
      exact ⟨by first | rfl | exact ret_int (by simp [rTold, rFold, rHead]), below_drewN ((Below.refl _ _).alloc (Nat.le_refl _) _) _⟩
  · match zs, hl with
    | [z0, z1], _ =>
      have c0 := hcell 0 (by simp)
      have b0 := hz 0 (by simp)
      have c1 := hcell 1 (by simp)
      have b1 := hz 1 (by simp)
      simp at c0 b0 c1 b1
      obtain ⟨l0, u0⟩ := b0
      obtain ⟨l1, u1⟩ := b1
      clear hcell hz hs hl
      go_enter Tryz.func125, Tryz.ntmps125
      go_wp2_with fail
      go_quiet (fail)
      go_wp2_with fail
      refine wp_loop_rounds 2 ?_
      repeat any_goals (rw [rounds_succ]; go_wp2_with fail)
      go_ret
      exact ⟨by first | rfl | exact ret_int (by simp [rTold, rFold, rHead]), below_drewN ((Below.refl _ _).alloc (Nat.le_refl _) _) _⟩
  · match zs, hl with
    | [z0, z1, z2], _ =>
      have c0 := hcell 0 (by simp)
      have b0 := hz 0 (by simp)
      have c1 := hcell 1 (by simp)
      have b1 := hz 1 (by simp)
      have c2 := hcell 2 (by simp)
      have b2 := hz 2 (by simp)
      simp at c0 b0 c1 b1 c2 b2
      obtain ⟨l0, u0⟩ := b0
      obtain ⟨l1, u1⟩ := b1
      obtain ⟨l2, u2⟩ := b2
      clear hcell hz hs hl
      go_enter Tryz.func125, Tryz.ntmps125
      go_wp2_with fail
      go_quiet (fail)
      go_wp2_with fail
      refine wp_loop_rounds 3 ?_
      repeat any_goals (rw [rounds_succ]; go_wp2_with fail)
      go_ret
      exact ⟨by first | rfl | exact ret_int (by simp [rTold, rFold, rHead]), below_drewN ((Below.refl _ _).alloc (Nat.le_refl _) _) _⟩
  · match zs, hl with
    | [z0, z1, z2, z3], _ =>
      have c0 := hcell 0 (by simp)
      have b0 := hz 0 (by simp)
      have c1 := hcell 1 (by simp)
      have b1 := hz 1 (by simp)
      have c2 := hcell 2 (by simp)
      have b2 := hz 2 (by simp)
      have c3 := hcell 3 (by simp)
      have b3 := hz 3 (by simp)
      simp at c0 b0 c1 b1 c2 b2 c3 b3
      obtain ⟨l0, u0⟩ := b0
      obtain ⟨l1, u1⟩ := b1
      obtain ⟨l2, u2⟩ := b2
      obtain ⟨l3, u3⟩ := b3
      clear hcell hz hs hl
      go_enter Tryz.func125, Tryz.ntmps125
      go_wp2_with fail
      go_quiet (fail)
      go_wp2_with fail
      refine wp_loop_rounds 4 ?_
      repeat any_goals (rw [rounds_succ]; go_wp2_with fail)
      go_ret
      exact ⟨by first | rfl | exact ret_int (by simp [rTold, rFold, rHead]), below_drewN ((Below.refl _ _).alloc (Nat.le_refl _) _) _⟩
end Go.Proofs.YtaghfmgeccapbaaGreat
namespace Go.Proofs.YtaghfmgeccapbaaGreat
open Go.RowKit

theorem strOfNums_inj {xs ys : List Int} (hx : ∀ i, i < xs.length → 0 ≤ xs.getD i 0 ∧ xs.getD i 0 < 256) (hy : ∀ i, i < ys.length → 0 ≤ ys.getD i 0 ∧ ys.getD i 0 < 256) (h : strOfNums xs = strOfNums ys) : xs = ys := by
  have h1 : (xs.map fun n => UInt8.ofNat n.toNat) = (ys.map fun n => UInt8.ofNat n.toNat) := by
    rw [← strOfNums_data, ← strOfNums_data, h]
  have hl : xs.length = ys.length := by simpa using congrArg List.length h1
  apply List.ext_getElem hl
  intro i hi hi'
  have h2 : UInt8.ofNat (xs[i]).toNat = UInt8.ofNat (ys[i]).toNat := by
    have := congrArg (fun l => l[i]?) h1
    simpa [hi, hi'] using this
  have a := hx i hi
  have b := hy i hi'
  simp [hi, hi'] at a b
  have h3 := congrArg UInt8.toNat h2
  simp at h3
  omega

theorem bytesArr_inj {a b : ByteArray} (h : a.data.toList = b.data.toList) : a = b := by
  cases a
  cases b
  simp only at h
  rw [Array.toList_inj.1 h]
theorem str_eq {xs ys : List Int} (hx : ∀ i, i < xs.length → 0 ≤ xs.getD i 0 ∧ xs.getD i 0 < 256) (hy : ∀ i, i < ys.length → 0 ≤ ys.getD i 0 ∧ ys.getD i 0 < 256) :
    ((strOfNums xs).toList == (strOfNums ys).toList) = decide (xs = ys) := by
  rw [Bool.eq_iff_iff]
  simp only [beq_iff_eq, decide_eq_true_eq]
  refine ⟨fun h => strOfNums_inj hx hy (bytesArr_inj (by rw [← ByteArray.toList_eq, ← ByteArray.toList_eq, h])), fun h => by rw [h]⟩
theorem conv_sl {P : Program} {W : World} {B : Nat} {a : Option Addr} {zs : List Int} {c : Nat} {src dst e : TypeId} (hs : P.underlying src = some (.slice e)) (he : P.underlying e = some (.int .u8))
    (hd : P.underlying dst = some .string) (hsl : Sl W B a (zs.map (Value.int .u8))) : (convert src dst (.slice a zs.length c)).run P W = .ok (.string (strOfNums zs)) W := by
  cases zs with
  | nil =>
    show (convert src dst (.slice a 0 c)).run P W = _
    rw [run_convert_bytes_string W src dst e _ 0 c hs he hd]
    cases a <;> simp [Conv.bytesToString, loadCells]
    all_goals rfl
  | cons z r =>
    obtain ⟨b, off, rfl, _, hc⟩ := hsl.int (i := 0) (by simp)
    exact run_convert_bytes_arg W src e hs he b off _ c _ rfl hc dst hd
end Go.Proofs.YtaghfmgeccapbaaGreat
namespace Go.Proofs.YtaghfmgeccapbaaGreat
open Go.RowKit

def rWholeB (zs : List Int) : Bool := rightC (rTold zs) && decide (rPut (rTold zs) = zs)

theorem rPut_bytes {n : Int} (h0 : 0 ≤ n) (h1 : n < 1114112) : ∀ i, i < (rPut n).length → 0 ≤ (rPut n).getD i 0 ∧ (rPut n).getD i 0 < 256 := by
  unfold rPut
  intro i hi
  split at hi
  · rw [if_pos ‹_›]
    have : i = 0 := by simpa using hi
    subst this
    simp
    omega
  · rw [if_neg ‹_›]
    split at hi
    · rw [if_pos ‹_›]
      rcases (by simp at hi; omega : i = 0 ∨ i = 1) with rfl | rfl <;> simp <;> omega
    · rw [if_neg ‹_›]
      split at hi
      · rw [if_pos ‹_›]
        rcases (by simp at hi; omega : i = 0 ∨ i = 1 ∨ i = 2) with rfl | rfl | rfl <;> simp <;> omega
      · rw [if_neg ‹_›]
        rcases (by simp at hi; omega : i = 0 ∨ i = 1 ∨ i = 2 ∨ i = 3) with rfl | rfl | rfl | rfl <;> simp <;> omega
theorem rRight_no (w : World) (n : Int) (h : rightC n = false) : Calls Tryz.prog 100 #[.int .i64 n] w fun e w' => e = .returned (.bool false) ∧ w' = w :=
  (rRight_any w n).mono fun _ _ ⟨he, hw⟩ => ⟨by rw [he, h], hw.symm⟩
theorem rRight_yes (w : World) (n : Int) (h : rightC n = true) : Calls Tryz.prog 100 #[.int .i64 n] w fun e w' => e = .returned (.bool true) ∧ w' = w :=
  (rRight_any w n).mono fun _ _ ⟨he, hw⟩ => ⟨by rw [he, h], hw.symm⟩

set_option maxHeartbeats 1000000 in
theorem whole_any (w : World) (B : Nat) (a : Option Addr) (n c : Nat) (zs : List Int) (hB : B ≤ w.heap.size) (hz : ∀ i, i < zs.length → 0 ≤ zs.getD i 0 ∧ zs.getD i 0 < 256) (hn : n = zs.length) (h0 : 0 < zs.length) (h4 : zs.length ≤ 4)
    (hs : Sl w B a (zs.map (Value.int .u8))) : Calls Tryz.prog 106 #[.slice a n c] w (RetV w (.bool (rWholeB zs))) := by
  subst hn
  go_enter Tryz.func106, Tryz.ntmps106
  go_wp2_with fail
  refine (told_any _ B _ _ _ zs hB hz rfl h0 h4 hs).mono ?_
  rintro e w1 ⟨rfl, hb1⟩
  have hs1 := hs.below (hb1.mono hB)
  have hB1 : B ≤ w1.heap.size := Nat.le_trans hB hb1.size
  cases hr : rightC (rTold zs) with
  | false =>
    have HQ : Hid (rWholeB zs = false) := by show _ = _; simp [rWholeB, hr]
    have HR := Lib.hid hr
    clear hr
    generalize rTold zs = t at *
    go_wp2_with fail
    go_quiet ((go_at_call 100; exact Calls.quiet_of_same (rRight_no _ _ HR.out)))
    go_wp2_with fail
    go_ret
    exact ⟨by rw [HQ.out]; rfl, below_drewN hb1 _⟩
  | true =>
    have HR := Lib.hid hr
    have hrb := rightC_true.1 hr
    obtain ⟨t0, t1, -⟩ := hrb
    clear hr
    have HQ : Hid (∀ t, t = rTold zs → rWholeB zs = decide (rPut t = zs)) := by
      intro t ht
      subst ht
      simp [rWholeB, HR.out]
    obtain ⟨t, HT⟩ : ∃ t, Hid (t = rTold zs) := ⟨_, rfl⟩
    rw [← HT.out] at HR t0 t1
    rw [← HT.out]
    have hcv : ∀ W : World, Qt w1 W → (convert 68 9 (.slice a zs.length c)).run Tryz.prog W = .ok (.string (strOfNums zs)) W := fun W hW => conv_sl Tryz.underlying68 Tryz.underlying5 Tryz.underlying9 (hs1.keep (fun b o _ => hW.cell _))
    have hcv1 := hcv w1.drew (Qt.refl w1).drew
    go_wp2_with fail
    go_region_with (first
      | (go_at_call 100; refine (rRight_yes _ _ HR.out).mono ?_; rintro e w2 ⟨rfl, rfl⟩)
      | (go_at_call 140; refine (rPut_any _ t t0 (Int.lt_add_one_of_le t1)).mono ?_; rintro e w2 ⟨a2, c2, rfl, hc2, hs2, hb2⟩; have hcv2 := conv_sl (c := c2) Tryz.underlying68 Tryz.underlying5 Tryz.underlying9 hs2; have hcv3 := conv_sl (c := c) Tryz.underlying68 Tryz.underlying5 Tryz.underlying9 (hs1.drew.below (hb2.mono hB1))))
    all_goals go_wp2_with fail
    all_goals go_ret
    all_goals exact ⟨by rw [HQ.out t HT.out]; exact ret_bool (str_eq (rPut_bytes t0 (by omega)) hz), hb1.trans ((Qt.below (Qt.refl w1).drew).trans (hb2.mono (show w.heap.size ≤ w1.heap.size from hb1.size)))⟩
end Go.Proofs.YtaghfmgeccapbaaGreat
namespace Go.Proofs.YtaghfmgeccapbaaGreat
open Go.RowKit

def rd (ch need lo up : Int) : Array Value := #[.int .i64 ch, .int .i64 need, .int .u8 lo, .int .u8 up]

end Go.Proofs.YtaghfmgeccapbaaGreat
namespace Go.Proofs.YtaghfmgeccapbaaGreat
open Go.RowKit

end Go.Proofs.YtaghfmgeccapbaaGreat
namespace Go.Proofs.YtaghfmgeccapbaaGreat
open Go.RowKit

def BytesOK (zs : List Int) : Prop := ∀ i, i < zs.length → 0 ≤ zs.getD i 0 ∧ zs.getD i 0 < 256

def chOK (need : Nat) (ch : Int) : Prop := 0 ≤ ch ∧ ((need = 3 ∧ ch < 128) ∨ (need = 2 ∧ ch < 8192) ∨ (need = 1 ∧ ch < 524288) ∨ (need = 0 ∧ ch < 33554432))
theorem chOK.next {need : Nat} {ch c : Int} (h : chOK (need + 1) ch) : chOK need (ch * 64 + c % 64) := by
  unfold chOK at *
  omega
def FirstPost (w : World) (zs : List Int) (e : Ending) (w' : World) : Prop :=
  e = .returned (.tuple #[.int .i64 (firstOf zs).1, .int .i64 ((firstOf zs).2 : Nat)]) ∧ Below w.heap.size w w'
theorem FirstPost.mk' {w w' : World} {zs : List Int} {x : Int} {k : Nat} {e : Ending} (h : firstOf zs = (x, k)) (he : e = .returned (.tuple #[.int .i64 x, .int .i64 (k : Nat)])) (hb : Below w.heap.size w w') : FirstPost w zs e w' :=
  ⟨by rw [h]; exact he, hb⟩

end Go.Proofs.YtaghfmgeccapbaaGreat
namespace Go.Proofs.YtaghfmgeccapbaaGreat
open Go.RowKit

theorem Tryz.eiBytes : EI Tryz.prog 68 5 1 1 := EI.mk (z := .int .u8 0) (by kernel_rfl) (by kernel_rfl) rfl (by decide)

theorem BytesOK.drop {zs : List Int} (h : BytesOK zs) (k : Nat) : BytesOK (zs.drop k) := fun i hi => by
  simp at hi
  have := h (k + i) (by omega)
  simpa [List.getD_eq_getElem?_getD] using this

structure CharsRel (w : World) (B : Nat) (zs rs : List Int) (n : Nat) (a : Option Addr) (c : Nat) (v : Value) (done : List Int) (wr : World) : Prop where
  len : n = rs.length
  cap : n ≤ c
  size : rs.length + done.length ≤ zs.length
  ok : BytesOK rs
  sl : Sl wr B a (rs.map (Value.int .u8))
  own : OwnL wr w.heap.size 3 .i64 v done
  below : Below w.heap.size w wr
  eq : done ++ rawChars rs = rawChars zs

theorem CharsRel.next {w wr w2 w3 : World} {B : Nat} {zs rs done : List Int} {a : Option Addr} {c y : Nat} {v v3 : Value} {x : Int} (h : CharsRel w B zs rs rs.length a c v done wr) (hb2 : Below wr.heap.size wr w2)
    (hB : B ≤ w.heap.size) (he : rawChars rs = x :: rawChars (rs.drop y)) (h1 : 1 ≤ y) (h2 : y ≤ rs.length) (hc : rs.length ≤ c)
    (hs : Sl w2 B a (rs.map (Value.int .u8))) (ho : OwnL w3 w.heap.size 3 .i64 v3 (done ++ [x])) (hb3 : Below w.heap.size w2 w3) :
    CharsRel w B zs (rs.drop y) (rs.length - y) (if c = y then a else Option.map (fun x => x.add y) a) (c - y) v3 (done ++ [x]) w3 := by
  have hs3 := hs.below (hb3.mono hB)
  have hcut := hs3.cut (k := y) (cap := c) (n := rs.length) h2 (by simp) hc
  refine ⟨by simp, by omega, ?_, h.ok.drop y, by simpa using hcut, ho, ?_, ?_⟩
  · have := h.size
    simp
    omega
  · exact h.below.trans ((hb2.mono h.below.size).trans hb3)
  · rw [← h.eq, he]
    simp
end Go.Proofs.YtaghfmgeccapbaaGreat
namespace Go.Proofs.YtaghfmgeccapbaaGreat
open Go.RowKit

def fillTo (zs : List Int) (c : Int) (size : Nat) : List Int := zs ++ List.replicate (size - zs.length) c

structure FilledRel (w : World) (zs : List Int) (z : Int) (size k : Nat) (v : Value) (wr : World) : Prop where
  le : zs.length + k ≤ size
  own : OwnL wr w.heap.size 5 .u8 v (zs ++ List.replicate k z)
  below : Below w.heap.size w wr

set_option maxHeartbeats 1000000 in
theorem filled_any (w : World) (B : Nat) (a : Option Addr) (n c : Nat) (zs : List Int) (z : Int) (size : Nat) (hB : B ≤ w.heap.size) (hn : n = zs.length) (h4 : zs.length ≤ size) (h5 : size ≤ 1000)
    (hs : Sl w B a (zs.map (Value.int .u8))) : Calls Tryz.prog 152 #[.slice a n c, .int .u8 z, .int .i64 size] w (RetL .u8 w (fillTo zs z size)) := by
  subst hn
  have hs0 := hs.alloc hB (.cells #[] 5)
  have ho0 := OwnL.nil (w.alloc (.cells #[] 5)) w.heap.size 5 .u8 (some ⟨w.heap.size, 0, none⟩)
  go_enter Tryz.func152, Tryz.ntmps152
  go_wp2_with (at_builtin; refine appL_sl _ rfl (.tmp 8) (.tmp 9) 68 rfl Tryz.eiBytes (by decide) w.heap.size .u8 _ [] rfl ho0 B a zs.length c zs rfl rfl hs0 (by simp) (by omega) (by simp) ?_; intro v w1 ho1 hg1 hb1)
  have HR : FilledRel w zs z size 0 v w1 := ⟨by omega, by simpa using ho1, ((Below.refl _ w).alloc (Nat.le_refl _) _).trans hb1⟩
  clear ho1 hg1 hb1 hs0 ho0
  go_loopw [7] (fun v wr => ∃ k a m c, v = .slice a m c ∧ m = zs.length + k ∧ FilledRel w zs z size k v wr) (fun v _ => size - lenV v)
  case atStart =>
    obtain ⟨a1, c1, hv, -, -⟩ := HR.own.form
    exact ⟨0, a1, _, c1, hv, by simp, HR⟩
  case round =>
    clear HR
    obtain ⟨k, a, m, c, rfl, rfl, hr⟩ := hrel
    have hle := hr.le
    by_cases hk : zs.length + k = size
    · have HQ : Hid (fillTo zs z size = zs ++ List.replicate k z) := by
        show _ = _
        rw [fillTo, ← hk, Nat.add_sub_cancel_left]
      have HO := hr.own
      have HB := Lib.hid hr.below
      clear hr hle
      subst hk
      go_wp2_with fail
      go_ret
      rw [HQ.out]
      exact RetL.of rfl HO HB.out
    · have hlt : zs.length + k < size := by omega
      have HO := hr.own
      have hwb := hr.below.size
      have HR := Lib.hid hr
      clear hr hk hle
      go_wp2_with (at_builtin; refine appL_one _ rfl (.tmp 15) (.tmp 17) 68 rfl Tryz.eiBytes (by decide) w.heap.size .u8 _ _ _ rfl HO rfl (by simp; omega) hwb ?_; intro v3 w3 ho3 hg3 hb3)
      have HN : FilledRel w zs z size (k + 1) v3 w3 := ⟨hlt, by rw [List.replicate_succ', ← List.append_assoc]; exact ho3, HR.out.below.trans hb3⟩
      clear HR HO ho3 hg3 hb3
      obtain ⟨a1, c1, hv, -, -⟩ := HN.own.form
      refine ⟨⟨k + 1, a1, _, c1, hv, by simp, HN⟩, ?_⟩
      rw [hv]
      simp only [lenV, List.length_append, List.length_replicate]
      omega

def rBegFrom (zs : List Int) : Nat → Bool
  | 0 => false
  | m + 1 => rWholeB (fillTo zs 128 (4 - m)) || (rWholeB (fillTo zs 191 (4 - m)) || rBegFrom zs m)

structure BegRel (w : World) (zs : List Int) (s : Nat) (wr : World) : Prop where
  below : Below w.heap.size w wr
  eq : rBegFrom zs (5 - s) = rBegFrom zs (4 - zs.length)

theorem fillTo_bytes {zs : List Int} {z : Int} {s : Nat} (hz : BytesOK zs) (h0 : 0 ≤ z) (h1 : z < 256) : BytesOK (fillTo zs z s) := by
  intro i hi
  unfold fillTo at *
  by_cases h : i < zs.length
  · have := hz i h
    simpa [List.getD_eq_getElem?_getD, List.getElem?_append_left h] using this
  · simp at hi
    have : (zs ++ List.replicate (s - zs.length) z).getD i 0 = z := by
      simp only [List.getD_eq_getElem?_getD, List.getElem?_append_right (by omega : zs.length ≤ i)]
      simp [show i - zs.length < s - zs.length by omega]
    rw [this]
    omega
theorem fillTo_length {zs : List Int} {z : Int} {s : Nat} (h : zs.length ≤ s) : (fillTo zs z s).length = s := by
  simp [fillTo]
  omega

set_option maxHeartbeats 1000000 in
theorem begins_any (w : World) (B : Nat) (a : Option Addr) (n c : Nat) (zs : List Int) (hB : B ≤ w.heap.size) (hz : BytesOK zs) (hn : n = zs.length) (h0 : 0 < zs.length) (h4 : zs.length ≤ 4)
    (hs : Sl w B a (zs.map (Value.int .u8))) : Calls Tryz.prog 126 #[.slice a n c] w (RetV w (.bool (rBegFrom zs (4 - zs.length)))) := by
  subst hn
  have HZ := Lib.hid hz
  clear hz
  go_enter Tryz.func126, Tryz.ntmps126
  go_wp2_with fail
  go_loopw [3] (fun i wr => ∃ s : Nat, i = .int .i64 s ∧ zs.length < s ∧ s ≤ 5 ∧ BegRel w zs s wr) (fun i _ => 5 - (intOf i).toNat)
  case atStart => exact ⟨zs.length + 1, by go_num, by omega, by omega, ⟨Below.refl _ _, by rw [Nat.sub_add_eq, Nat.sub_right_comm]⟩⟩
  case round =>
    obtain ⟨s, rfl, h1, h2, hr⟩ := hrel
    have HR := Lib.hid hr
    have hs1 := hs.below (hr.below.mono hB)
    have hB1 : B ≤ wr.heap.size := Nat.le_trans hB hr.below.size
    have hwb : w.heap.size ≤ wr.heap.size := hr.below.size
    clear hr hs
    by_cases h5 : s = 5
    · subst h5
      have HQ : Hid (rBegFrom zs (4 - zs.length) = false) := HR.out.eq.symm
      go_wp2_with fail
      go_ret
      exact ⟨by rw [HQ.out]; rfl, HR.out.below⟩
    · have hs4 : s ≤ 4 := by omega
      have HE : Hid (rBegFrom zs (4 - zs.length) = (rWholeB (fillTo zs 128 s) || (rWholeB (fillTo zs 191 s) || rBegFrom zs (4 - s)))) := by
        have := HR.out.eq
        rw [show 5 - s = (4 - s) + 1 by omega] at this
        rw [rBegFrom, show 4 - (4 - s) = s by omega] at this
        exact this.symm
      clear h5 h2
      go_wp2_with fail
      refine (filled_any _ B _ _ _ zs 128 s hB1 rfl (by omega) (by omega) hs1).mono ?_
      rintro e w2 ⟨a2, c2, rfl, hc2, hs2, hb2⟩
      have hs12 := hs1.below (hb2.mono hB1)
      have hB2 : B ≤ w2.heap.size := Nat.le_trans hB1 hb2.size
      go_wp2_with fail
      refine (whole_any _ _ _ _ _ _ (Nat.le_refl _) (fillTo_bytes (z := 128) (s := s) HZ.out (by omega) (by omega)) rfl (by rw [fillTo_length (by omega)]; omega) (by rw [fillTo_length (by omega)]; omega) hs2).mono ?_
      rintro e w3 ⟨rfl, hb3⟩
      have hs13 := hs12.below (hb3.mono hB2)
      have hB3 : B ≤ w3.heap.size := Nat.le_trans hB2 hb3.size
      have h13 : Below wr.heap.size wr w3 := hb2.trans (hb3.mono hb2.size)
      clear hs1 hs2 hs12 hb2 hb3 hc2
      cases hw1 : rWholeB (fillTo zs 128 s) with
      | true =>
        have HQ : Hid (rBegFrom zs (4 - zs.length) = true) := by show _ = _; rw [HE.out, hw1, Bool.true_or]
        go_wp2_with fail
        go_ret
        exact ⟨by rw [HQ.out]; rfl, HR.out.below.trans (h13.mono hwb)⟩
      | false =>
        go_wp2_with fail
        refine (filled_any _ B _ _ _ zs 191 s hB3 rfl (by omega) (by omega) hs13).mono ?_
        rintro e w4 ⟨a4, c4, rfl, hc4, hs4', hb4⟩
        go_wp2_with fail
        refine (whole_any _ _ _ _ _ _ (Nat.le_refl _) (fillTo_bytes (z := 191) (s := s) HZ.out (by omega) (by omega)) rfl (by rw [fillTo_length (by omega)]; omega) (by rw [fillTo_length (by omega)]; omega) hs4').mono ?_
        rintro e w5 ⟨rfl, hb5⟩
        have h15 : Below wr.heap.size wr w5 := h13.trans ((hb4.mono h13.size).trans (hb5.mono (Nat.le_trans h13.size hb4.size)))
        clear hs4' hb4 hb5 hc4 hs13 h13
        cases hw2 : rWholeB (fillTo zs 191 s) with
        | true =>
          have HQ : Hid (rBegFrom zs (4 - zs.length) = true) := by show _ = _; rw [HE.out, hw1, hw2]; rfl
          clear HE
          go_wp2_with fail
          go_ret
          exact ⟨by rw [HQ.out]; rfl, HR.out.below.trans (h15.mono hwb)⟩
        | false =>
          have HN : BegRel w zs (s + 1) w5 := ⟨HR.out.below.trans (h15.mono hwb), by rw [HE.out, hw1, hw2, show 5 - (s + 1) = 4 - s by omega]; rfl⟩
          clear HE hw1 hw2 HR
          go_wp2_with fail
          refine ⟨⟨s + 1, by go_num, by omega, by omega, HN⟩, ?_⟩
          simp [intOf]
          omega
end Go.Proofs.YtaghfmgeccapbaaGreat
namespace Go.Proofs.YtaghfmgeccapbaaGreat
open Go.RowKit

theorem Sl.mid {w : World} {B : Nat} {a : Option Addr} {xs : List Value} (h : Sl w B a xs) (k n : Nat) : Sl w B (a.map (fun x => x.add k)) ((xs.drop k).take n) := fun hne => by
  have hlt : k < xs.length := by
    apply Classical.byContradiction
    intro hge
    rw [List.drop_eq_nil_of_le (by omega)] at hne
    simp at hne
  obtain ⟨b, off, rfl, hb, hcell⟩ := h.open_ hlt
  refine ⟨b, off + k, by simp [Addr.add], hb, fun i hi => ?_⟩
  simp at hi
  rw [Nat.add_assoc, hcell (k + i) (by omega)]
  simp
theorem Sl.midI {w : World} {B : Nat} {a : Option Addr} {k : IntKind} {zs : List Int} (h : Sl w B a (zs.map (Value.int k))) (j n : Nat) : Sl w B (a.map (fun x => x.add j)) (((zs.drop j).take n).map (Value.int k)) := by
  have := h.mid j n
  rwa [← List.map_drop, ← List.map_take] at this
theorem BytesOK.take {zs : List Int} (h : BytesOK zs) (k : Nat) : BytesOK (zs.take k) := fun i hi => by
  simp only [List.length_take] at hi
  have := h i (by omega)
  simpa [List.getD_eq_getElem?_getD, List.getElem?_take, show i < k by omega] using this
def rF1 (r : List Int) : Nat → Option (Int × Nat)
  | 0 => none
  | m + 1 => if 4 - m ≤ r.length then (if rWholeB (r.take (4 - m)) then some (rTold (r.take (4 - m)), 4 - m) else rF1 r m) else none
def rBeg (r : List Int) : Bool := rBegFrom r (4 - r.length)
def rF2 (r : List Int) : Nat → Nat
  | 0 => 1
  | m + 1 => if m + 2 ≤ r.length ∧ rBeg (r.take (m + 2)) = true then m + 2 else rF2 r m
def rFirst (r : List Int) : Int × Nat := match rF1 r 4 with
  | some x => x
  | none => (65533, rF2 r 2)

def FirstIs (w : World) (x : Int × Nat) (e : Ending) (w' : World) : Prop := e = .returned (.tuple #[.int .i64 x.1, .int .i64 (x.2 : Nat)]) ∧ Below w.heap.size w w'
theorem FirstIs.mk' {w w' : World} {x : Int × Nat} {y : Int} {k : Nat} {e : Ending} (h : x = (y, k)) (he : e = .returned (.tuple #[.int .i64 y, .int .i64 (k : Nat)])) (hb : Below w.heap.size w w') : FirstIs w x e w' :=
  ⟨by rw [h]; exact he, hb⟩

set_option maxHeartbeats 1000000 in
theorem rFirst_any (w : World) (B : Nat) (a : Option Addr) (n c : Nat) (zs : List Int) (at_ : Nat) (hB : B ≤ w.heap.size) (hz : BytesOK zs) (hn : n = zs.length) (hc : n ≤ c) (hat : at_ < zs.length) (hm : zs.length ≤ 140737488355328)
    (hs : Sl w B a (zs.map (Value.int .u8))) : Calls Tryz.prog 101 #[.slice a n c, .int .i64 at_] w (FirstIs w (rFirst (zs.drop at_))) := by
  subst hn
  have HZ := Lib.hid hz
  have hs0 := Lib.hid hs
  clear hz
  go_enter Tryz.func101, Tryz.ntmps101
  go_wp2_with fail
  go_loopw [6] (fun i wr => ∃ s : Nat, i = .int .i64 s ∧ 1 ≤ s ∧ s ≤ 5 ∧ Hid (rF1 (zs.drop at_) (5 - s) = rF1 (zs.drop at_) 4) ∧ Below w.heap.size w wr) (fun i _ => 5 - (intOf i).toNat)
  case atStart => exact ⟨1, by go_num, by omega, by omega, rfl, Below.refl _ _⟩
  case round =>
    obtain ⟨s, rfl, h1, h2, HR, hb⟩ := hrel
    have hs1 := hs.below (hb.mono hB)
    have hB1 : B ≤ wr.heap.size := Nat.le_trans hB hb.size
    clear hs
    by_cases hin : s ≤ 4 ∧ at_ + s ≤ zs.length
    · obtain ⟨i1, i2⟩ := hin
      have i3 : (at_ : Int) + (s : Int) ≤ (zs.length : Int) := by omega
      have hL : ((zs.drop at_).take s).length = s := by simp; omega
      have HL := Lib.hid hL
      have HOK := ((HZ.out).drop at_).take s
      have hHE : rF1 (zs.drop at_) (5 - s) = if rWholeB ((zs.drop at_).take s) then some (rTold ((zs.drop at_).take s), s) else rF1 (zs.drop at_) (4 - s) := by
        rw [show 5 - s = (4 - s) + 1 by omega, rF1, show 4 - (4 - s) = s by omega, if_pos (by simp; omega)]
      have HE := Lib.hid (HR.out.symm.trans hHE)
      have hs2 := hs1.midI at_ s
      generalize (zs.drop at_).take s = r at *
      clear hHE
      go_wp2_with fail
      refine (whole_any _ B _ _ _ r hB1 HOK HL.out.symm (by omega) (by omega) hs2).mono ?_
      rintro e w2 ⟨rfl, hb2⟩
      have hs3 := hs2.below (hb2.mono hB1)
      have hB2 : B ≤ w2.heap.size := Nat.le_trans hB1 hb2.size
      have hb3 := hb.trans (hb2.mono hb.size)
      cases hw : rWholeB r with
      | true =>
        have HQ : Hid (rFirst (zs.drop at_) = (rTold r, s)) := by
          show _ = _
          rw [rFirst, HE.out, hw]
          rfl
        clear HE hs1 hs2 hb hb2
        go_wp2_with fail
        refine (told_any _ B _ _ _ r hB2 HOK HL.out.symm (by omega) (by omega) hs3).mono ?_
        rintro e w4 ⟨rfl, hb4⟩
        go_wp2_with fail
        go_ret2
        exact FirstIs.mk' HQ.out rfl (hb3.trans (hb4.mono hb3.size))
      | false =>
        have HN : Hid (rF1 (zs.drop at_) (5 - (s + 1)) = rF1 (zs.drop at_) 4) := by
          show _ = _
          rw [HE.out, hw, show 5 - (s + 1) = 4 - s by omega]
          rfl
        clear HE hs1 hs2 hb hb2 hw HOK hL HL
        go_wp2_with fail
        refine ⟨⟨s + 1, by go_num, by omega, by omega, HN, hb3⟩, ?_⟩
        simp [intOf]
        omega
    · have HF : Hid (rF1 (zs.drop at_) 4 = none) := by
        show _ = _
        rw [← HR.out]
        by_cases h5 : s = 5
        · subst h5
          rfl
        · rw [show 5 - s = (4 - s) + 1 by omega, rF1, show 4 - (4 - s) = s by omega, if_neg (by simp; omega)]
      clear HR
      rcases (by omega : s = 5 ∨ (s ≤ 4 ∧ zs.length < at_ + s)) with rfl | ⟨i1, i2⟩
      all_goals clear h1 h2 hin
      all_goals go_wp2_with fail
      all_goals (
        go_loopw [4, 5, 7] (fun _ _ i wr => ∃ m : Nat, i = .int .i64 ((m : Int) + 1) ∧ m ≤ 2 ∧ Hid (rF2 (zs.drop at_) m = rF2 (zs.drop at_) 2) ∧ Below w.heap.size w wr) (fun _ _ i _ => (intOf i).toNat)
        case atStart => exact ⟨2, by go_num, by omega, rfl, hb⟩
        case round =>
          clear hb hs1 hB1
          obtain ⟨m, rfl, g2, HR, hb⟩ := hrel
          have hs1 := hs0.out.below (hb.mono hB)
          have hB1 : B ≤ wr.heap.size := Nat.le_trans hB hb.size
          cases m with
          | zero =>
            have HQ : Hid (rFirst (zs.drop at_) = (65533, 1)) := by
              show _ = _
              rw [rFirst, HF.out]
              show (65533, rF2 (zs.drop at_) 2) = _
              rw [← HR.out]
              rfl
            clear hs1 HR
            go_wp2_with fail
            go_ret2
            exact FirstIs.mk' HQ.out rfl hb
          | succ m =>
            by_cases hin : at_ + (m + 2) ≤ zs.length
            · have i3 : (at_ : Int) + ((m : Int) + 1 + 1) ≤ (zs.length : Int) := by omega
              have hL : ((zs.drop at_).take (m + 2)).length = m + 2 := by simp; omega
              have HL := Lib.hid hL
              have HOK := ((HZ.out).drop at_).take (m + 2)
              have hHE : rF2 (zs.drop at_) (m + 1) = if rBeg ((zs.drop at_).take (m + 2)) = true then m + 2 else rF2 (zs.drop at_) m := by
                rw [rF2]
                have : m + 2 ≤ (zs.drop at_).length := by simp; omega
                simp only [this, true_and]
              have HE := Lib.hid (HR.out.symm.trans hHE)
              have hs2 := hs1.midI at_ (m + 2)
              generalize (zs.drop at_).take (m + 2) = r at *
              clear hHE HR
              go_wp2_with fail
              refine (begins_any _ B _ _ _ r hB1 HOK HL.out.symm (by omega) (by omega) hs2).mono ?_
              rintro e w2 ⟨rfl, hb2⟩
              have hb3 := hb.trans (hb2.mono hb.size)
              have HBB : Hid (rBegFrom r (4 - r.length) = rBeg r) := rfl
              rw [HBB.out]
              cases hw : rBeg r with
              | true =>
                have HQ : Hid (rFirst (zs.drop at_) = (65533, m + 2)) := by
                  show _ = _
                  rw [rFirst, HF.out]
                  show (65533, rF2 (zs.drop at_) 2) = _
                  rw [HE.out, if_pos hw]
                clear HE hs1 hs2 hb hb2 hw HBB hL HL
                go_wp2_with fail
                go_ret2
                exact FirstIs.mk' HQ.out (by go_num) hb3
              | false =>
                have HN : Hid (rF2 (zs.drop at_) m = rF2 (zs.drop at_) 2) := by
                  show _ = _
                  rw [HE.out, if_neg (by simp [hw])]
                clear HE hs1 hs2 hb hb2 hw HBB hL HL
                go_wp2_with fail
                refine ⟨?_, ?_⟩
                · first | exact ⟨m, by go_num, by omega, HN, hb3⟩ | ((repeat apply Exists.intro); exact ⟨⟨m, by go_num, by omega, HN, hb3⟩, rfl⟩)
                simp [intOf]
                omega
            · have HN : Hid (rF2 (zs.drop at_) m = rF2 (zs.drop at_) 2) := by
                show _ = _
                rw [← HR.out, rF2, if_neg (by simp; omega)]
              have i3 : ¬ (at_ : Int) + ((m : Int) + 1 + 1) ≤ (zs.length : Int) := by omega
              clear hs1 HR
              go_wp2_with fail
              refine ⟨?_, ?_⟩
              · first | exact ⟨m, by go_num, by omega, HN, hb⟩ | ((repeat apply Exists.intro); exact ⟨⟨m, by go_num, by omega, HN, hb⟩, rfl⟩)
              simp [intOf]
              omega)
end Go.Proofs.YtaghfmgeccapbaaGreat
namespace Go.Proofs.YtaghfmgeccapbaaGreat
open Go.RowKit

def rGoodN : Nat → List Int → Bool
  | 0, _ => true
  | _ + 1, [] => true
  | n + 1, z :: r => if z = 0 ∨ rWholeB ((z :: r).take (rFirst (z :: r)).2) = false ∨ (rFirst (z :: r)).1 = 0 then false else rGoodN n ((z :: r).drop (rFirst (z :: r)).2)
def rGood (zs : List Int) : Bool := rGoodN zs.length zs

theorem rF1_size {r : List Int} {x : Int × Nat} : ∀ {m : Nat}, m ≤ 4 → rF1 r m = some x → 1 ≤ x.2 ∧ x.2 ≤ 4 ∧ x.2 ≤ r.length
  | 0, _, h => by simp [rF1] at h
  | m + 1, hm, h => by
    unfold rF1 at h
    have ih := @rF1_size r x m (by omega)
    split at h
    · split at h
      · injection h with h
        subst h
        simp only
        omega
      · by_cases h0 : m = 0
        · subst h0
          simp [rF1] at h
        · exact ih h
    · cases h
theorem rF2_size {r : List Int} : ∀ m : Nat, m ≤ 2 → 0 < r.length → 1 ≤ rF2 r m ∧ rF2 r m ≤ 4 ∧ rF2 r m ≤ r.length
  | 0, _, h => by simp [rF2]; omega
  | m + 1, hm, h => by
    unfold rF2
    split
    · omega
    · exact rF2_size m (by omega) h
theorem rFirst_size {r : List Int} (h : 0 < r.length) : 1 ≤ (rFirst r).2 ∧ (rFirst r).2 ≤ 4 ∧ (rFirst r).2 ≤ r.length := by
  unfold rFirst
  cases h1 : rF1 r 4 with
  | some x => exact rF1_size (Nat.le_refl _) h1
  | none => exact rF2_size 2 (Nat.le_refl _) h
theorem rGoodN_fuel : ∀ (n m : Nat) (zs : List Int), zs.length ≤ n → zs.length ≤ m → rGoodN n zs = rGoodN m zs
  | 0, 0, _, _, _ => rfl
  | 0, m + 1, [], _, _ => rfl
  | n + 1, 0, [], _, _ => rfl
  | 0, _ + 1, _ :: _, h, _ => absurd h (by simp)
  | _ + 1, 0, _ :: _, _, h => absurd h (by simp)
  | n + 1, m + 1, [], _, _ => rfl
  | n + 1, m + 1, z :: zs, h1, h2 => by
    simp only [rGoodN]
    have := rFirst_size (r := z :: zs) (by simp)
    simp only [List.length_cons] at h1 h2
    rw [rGoodN_fuel n m _ (by simp only [List.length_drop, List.length_cons]; omega) (by simp only [List.length_drop, List.length_cons]; omega)]
theorem rGood_of {zs : List Int} (h : 0 < zs.length) : rGood zs = if zs.getD 0 0 = 0 ∨ rWholeB (zs.take (rFirst zs).2) = false ∨ (rFirst zs).1 = 0 then false else rGood (zs.drop (rFirst zs).2) := by
  cases zs with
  | nil => simp at h
  | cons z r =>
    have := rFirst_size (r := z :: r) (by simp)
    rw [rGood, List.length_cons, rGoodN, rGood, rGoodN_fuel r.length _ ((z :: r).drop (rFirst (z :: r)).2) (by simp only [List.length_drop, List.length_cons]; omega) (Nat.le_refl _)]
    rfl

set_option maxHeartbeats 1000000 in
theorem rGood_any (w : World) (B : Nat) (a : Option Addr) (n c : Nat) (zs : List Int) (hB : B ≤ w.heap.size) (hz : BytesOK zs) (hn : n = zs.length) (hc : n ≤ c) (hm : zs.length ≤ 140737488355328)
    (hs : Sl w B a (zs.map (Value.int .u8))) : Calls Tryz.prog 78 #[.slice a n c] w (RetV w (.bool (rGood zs))) := by
  subst hn
  have HZ := Lib.hid hz
  have hs0 := Lib.hid hs
  clear hz hs
  go_enter Tryz.func78, Tryz.ntmps78
  go_wp2_with fail
  go_loopw [3, 4, 5] (fun i _ _ wr => ∃ k : Nat, i = .int .i64 (k : Nat) ∧ k ≤ zs.length ∧ Hid (rGood (zs.drop k) = rGood zs) ∧ Below w.heap.size w wr) (fun i _ _ _ => zs.length - (intOf i).toNat)
  case atStart => exact ⟨0, by go_num, by omega, rfl, Below.refl _ _⟩
  case round =>
    obtain ⟨k, rfl, hk, HR, hb⟩ := hrel
    have hs1 := hs0.out.below (hb.mono hB)
    have hB1 : B ≤ wr.heap.size := Nat.le_trans hB hb.size
    by_cases hlt : k < zs.length
    · obtain ⟨b, off, rfl, hbB, hcell⟩ := hs1.int hlt
      have HC := Lib.hid (hcell k hlt)
      clear hcell
      have hpos : 0 < (zs.drop k).length := by simp; omega
      have HS := Lib.hid (rFirst_size hpos)
      have HE := Lib.hid (HR.out.symm.trans (rGood_of hpos))
      have hz0 : Hid ((zs.drop k).getD 0 0 = zs.getD k 0) := by show _ = _; simp [List.getD_eq_getElem?_getD]
      clear hpos HR
      go_wp2_with fail
      refine (rFirst_any _ B _ _ _ zs k hB1 HZ.out rfl hc hlt hm hs1).mono ?_
      rintro e w2 ⟨rfl, hb2⟩
      have c0 := ((below_cells hb2).1 b (off + k) (by omega)).trans HC.out
      have hs2 := hs1.below (hb2.mono hB1)
      have hB2 : B ≤ w2.heap.size := Nat.le_trans hB1 hb2.size
      have hb3 := hb.trans (hb2.mono hb.size)
      clear hs1 hb2 HC
      rw [hz0.out] at HE
      obtain ⟨z, HZK⟩ : ∃ z, Hid (zs.getD k 0 = z) := ⟨_, rfl⟩
      rw [HZK.out] at c0 HE
      have hzk := HZ.out k hlt
      rw [HZK.out] at hzk
      obtain ⟨zl, zu⟩ := hzk
      have hHS := HS.out
      have hLen : (zs.drop k).length = zs.length - k := by simp
      rw [hLen] at hHS
      have HL : Hid (((zs.drop k).take (rFirst (zs.drop k)).2).length = (rFirst (zs.drop k)).2) := by show _ = _; simp; omega
      have HOK := Lib.hid (((HZ.out).drop k).take (rFirst (zs.drop k)).2)
      have hs3 := hs2.midI k (rFirst (zs.drop k)).2
      simp only [Option.map_some, addr_add] at hs3
      have HD : Hid (List.drop (rFirst (List.drop k zs)).2 (List.drop k zs) = List.drop (k + (rFirst (List.drop k zs)).2) zs) := by show _ = _; rw [List.drop_drop]
      rw [HD.out] at HE
      generalize (zs.drop k).take (rFirst (zs.drop k)).2 = r at *
      generalize (rFirst (zs.drop k)).1 = x at *
      generalize (rFirst (zs.drop k)).2 = y at *
      clear HS HD hz0 hs0
      obtain ⟨y1, y2, y3⟩ := hHS
      clear hLen
      by_cases hz : z = 0
      · subst hz
        have HQ : Hid (rGood zs = false) := by show _ = _; rw [HE.out, if_pos (.inl rfl)]
        clear HE
        go_wp2_with fail
        go_ret
        exact ⟨by rw [HQ.out]; rfl, hb3⟩
      · have hzb : (z == 0) = false := by simp [hz]
        have HNZ := Lib.hid hz
        clear hz
        go_wp2_with fail
        refine (whole_any _ B _ _ _ r hB2 HOK.out (HL.out.trans (by omega)).symm (by rw [HL.out]; omega) (by rw [HL.out]; omega) hs3).mono ?_
        rintro e w4 ⟨rfl, hb4⟩
        have hb5 := hb3.trans (hb4.mono hb3.size)
        clear hb4 hs3 hs2
        cases hw : rWholeB r with
        | false =>
          have HQ : Hid (rGood zs = false) := by show _ = _; rw [HE.out, if_pos (.inr (.inl hw))]
          clear HE hw
          go_wp2_with fail
          go_ret
          exact ⟨by rw [HQ.out]; rfl, hb5⟩
        | true =>
          by_cases hx : x = 0
          · subst hx
            have HQ : Hid (rGood zs = false) := by show _ = _; rw [HE.out, if_pos (.inr (.inr rfl))]
            clear HE hw
            go_wp2_with fail
            go_ret
            exact ⟨by rw [HQ.out]; rfl, hb5⟩
          · have hxb : (x == 0) = false := by simp [hx]
            have HN : Hid (rGood (zs.drop (k + y)) = rGood zs) := by
              show _ = _
              rw [HE.out, if_neg]
              rintro (h | h | h)
              · exact HNZ.out h
              · rw [hw] at h
                cases h
              · exact hx h
            clear HE hw hx HNZ HOK
            go_wp2_with fail
            refine ⟨⟨k + y, by go_num, by omega, HN, hb5⟩, ?_⟩
            simp [intOf]
            omega
    · have hke : k = zs.length := by omega
      subst hke
      have HQ : Hid (rGood zs = true) := by
        have := HR.out
        rw [List.drop_length] at this
        exact this.symm
      go_wp2_with fail
      go_ret
      exact ⟨by rw [HQ.out]; rfl, hb⟩
end Go.Proofs.YtaghfmgeccapbaaGreat
namespace Go.Av
open Go.Proofs Go.RowKit Go.Proofs.YtaghfmgeccapbaaGreat
def byI : List D → Option (List Int)
  | [] => some []
  | .int .u8 n :: r => if 0 ≤ n ∧ n < 256 then (byI r).map (n :: ·) else none
  | _ => none
theorem byI_eq2 : ∀ {es : List D} {zs : List Int}, byI es = some zs → es = zs.map (D.int .u8) ∧ BytesOK zs
  | [], zs, h => by
    simp [byI] at h; subst h
    exact ⟨rfl, fun i hi => by simp at hi⟩
  | .int .u8 n :: r, zs, h => by
    simp only [byI] at h
    split at h
    · rename_i hn
      obtain ⟨ys, hy, rfl⟩ := Option.map_eq_some_iff.1 h
      obtain ⟨h1, h2⟩ := byI_eq2 hy
      refine ⟨by rw [h1]; rfl, fun i hi => ?_⟩
      cases i with
      | zero => exact hn
      | succ i => exact h2 i (by simpa using hi)
    · cases h
theorem flat_ints (k : IntKind) (zs : List Int) : flat (zs.map (D.int k)) = zs.map (D.int k) := by
  unfold flat
  rw [List.flatMap_map]
  induction zs with
  | nil => rfl
  | cons a r ih => rw [List.flatMap_cons, ih]; rfl
theorem sl_of_den {F : Nat → Nat → Prop} {w : World} {v : Value} {k : IntKind} {zs : List Int} (hd : Den0 F w v (.list (zs.map (D.int k)))) (hlt : Lt F w) : ∃ a c, v = .slice a zs.length c ∧ zs.length ≤ c ∧ Sl w w.heap.size a (zs.map (Value.int k)) := by
  generalize he : zs.map (D.int k) = es at hd
  cases hd with
  | list a n c sz es vs h1 h2 h3 h4 h5 h6 h7 =>
    subst he
    rw [List.length_map] at h1
    subst h1
    refine ⟨a, c, rfl, h2, fun hne => ?_⟩
    have hz : zs ≠ [] := by rintro rfl; exact hne rfl
    have hsz : sz = 1 := by
      obtain ⟨z, r, rfl⟩ := List.exists_cons_of_ne_nil hz
      have := h4 (.int k z) (by simp)
      simpa [dcells] using this.symm
    subst hsz
    rw [flat_ints] at h7
    rw [Nat.mul_one] at h5
    have hvs : vs = zs.map (Value.int k) := by
      apply List.ext_getElem?
      intro i
      by_cases hi : i < zs.length
      · have hv : vs[i]? = some vs[i] := List.getElem?_eq_getElem (by omega)
        have hx : (zs.map (D.int k))[i]? = some (.int k zs[i]) := by simp [hi]
        have := h7 i _ _ hv hx
        rw [hv]
        generalize vs[i] = u at this
        cases this
        simp [hi]
      · rw [List.getElem?_eq_none (by omega), List.getElem?_eq_none (by simp; omega)]
    rcases h6 with h6 | ⟨b, off, ha, hcell⟩
    · rw [h6] at h5
      exact absurd (List.length_eq_zero_iff.1 h5.symm) hz
    · have hpos : 0 < vs.length := by rw [h5]; exact List.length_pos_iff.2 hz
      have h0 := hcell 0 vs[0] (List.getElem?_eq_getElem hpos)
      refine ⟨b, off, ha, hlt _ _ h0.1, fun i hi => ?_⟩
      have := hcell i _ (by rw [hvs]; exact List.getElem?_eq_getElem hi)
      exact this.2.1
theorem good_calls {es : List D} {zs : List Int} (hb : byI es = some zs) (hm : zs.length ≤ 140737488355328) {F : Nat → Nat → Prop} {w : World} {v : Value} (hlt : Lt F w) (hd : Den0 F w v (.list es)) : Calls Tryz.prog 78 #[v] w (RetD F w (.bool (rGood zs))) := by
  obtain ⟨rfl, hz⟩ := byI_eq2 hb
  obtain ⟨a, c, rfl, hc, hs⟩ := sl_of_den hd hlt
  refine (rGood_any w w.heap.size a zs.length c zs (Nat.le_refl _) hz rfl hc (by omega) hs).mono ?_
  rintro e w' ⟨rfl, hb⟩
  exact RetD.of hb (.bool _)
end Go.Av
namespace Go.Av
open Go.Proofs Go.RowKit Go.Proofs.YtaghfmgeccapbaaGreat
theorem den_list0 {c : Nat → Nat} {ν : Nat → Nat → Nat} {F : Nat → Nat → Prop} {w : World} {v : Value} {es : List D} (h : Den c ν F w v (.list es)) : Den0 F w v (.list es) := by
  cases h with
  | pure _ _ h => exact h
def orExt (a b : Call) : Call := fun f args pbs => match a f args pbs with | some r => some r | none => b f args pbs
theorem orExt_ok {P : Program} [Gs] {a b : Call} (ha : CallOK P a) (hb : CallOK P b) : CallOK P (orExt a b) := by
  intro f args pbs d r pbs' h
  unfold orExt at h
  split at h
  · rename_i x hx
    injection h with h
    subst h
    exact ha f args pbs d r pbs' hx
  · exact hb f args pbs d r pbs' h
end Go.Av
namespace Go.Av
open Go.Proofs Go.RowKit Go.Proofs.YtaghfmgeccapbaaGreat
variable [Rk]
def extF : Call := fun f args pbs => match f, args, pbs with
  | 78, [.list es], [] => (match byI es with | some zs => if zs.length ≤ 140737488355328 then some (.bool (rGood zs), [], []) else none | none => none)
  | _, _, _ => none
theorem extF_ok : CallOK Tryz.prog extF := by
  intro f args pbs d r pbs' h
  unfold extF at h
  split at h
  · rename_i es
    split at h
    · rename_i zs hz
      split at h
      · rename_i hc
        simp only [Option.some.injEq, Prod.mk.injEq] at h
        obtain ⟨rfl, rfl, rfl⟩ := h
        refine ⟨⟨_, Tryz.func78, rfl⟩, fun vals w F μ hv hd hb _ hlt hg => ?_⟩
        obtain ⟨v, rfl, h0⟩ := one_den hv hd
        exact (good_calls hz hc hlt (den_list0 h0)).mono fun e w' h => h.ret hlt
      · cases h
    · cases h
  · cases h
def extR : Call := fun f args pbs => match f with
  | 33 => Rk.r 33 args pbs
  | 13 => Rk.r 13 args pbs
  | 14 => Rk.r 14 args pbs
  | 6 => Rk.r 6 args pbs
  | 25 => Rk.r 25 args pbs
  | 22 => Rk.r 22 args pbs
  | 10 => Rk.r 10 args pbs
  | 12 => Rk.r 12 args pbs
  | _ => none
noncomputable def ext11b (chk : List D → Bool) : Call := orExt extF extR
theorem ext_in {chk : List D → Bool} {f : FuncId} {args : List D} {pbs : List Bx} {r : D × List Room × List Bx} (h : extF f args pbs = some r) : ext11b chk f args pbs = some r := by
  unfold ext11b orExt
  rw [h]
theorem ext_r {chk : List D → Bool} {f : FuncId} {args : List D} {pbs : List Bx} {r : D × List Room × List Bx} (h0 : extF f args pbs = none) (h : extR f args pbs = some r) : ext11b chk f args pbs = some r := by
  unfold ext11b orExt
  rw [h0]
  exact h
end Go.Av
set_option maxRecDepth 10000
namespace Go.Av
open Go.Proofs
theorem rowS (o : Oper) : Gs.rowAt o = (match o.op with
    | .makeSlice t _ _ => (t == 76 && o.dst == some 18) || (t == 39 && (o.dst == some 21 || o.dst == some 9)) || (t == 42 && o.dst == some 15)
    | .call c => (match c.callee, c.argTypes.toList with
      | .builtin .append, t :: _ => t == 42 && o.dst == some 9
      | _, _ => false)
    | _ => false) := rfl
theorem barS (o : Oper) : Gs.barC o = false := rfl
theorem frzS (ops : List Oper) : Gs.frzAt ops = (match ops with
    | o :: _ => (match o.op with
      | .move (.tmp n) => if (n == 5 && (o.dst == some 35 || o.dst == some 39)) = true then [5] else if (n == 6 && o.dst == some 29) = true then [6] else if (n == 8 && o.dst == some 119) = true then [8] else []
      | _ => [])
    | [] => []) := rfl
theorem noEatS (t : TypeId) : Gs.noEat t = (t == 3) := rfl
theorem frz_nil (s : St) : s.frz [] = s := rfl
theorem frz_cons (s : St) (t : Tmp) (l : List Tmp) : s.frz (t :: l) = (s.freeze t).frz l := rfl
theorem ptrIn_nil : ptrIn [] = none := rfl
theorem ptrIn_int (k : IntKind) (i : Int) (l : List D) : ptrIn (.int k i :: l) = ptrIn l := rfl
theorem ptrIn_bool (b : Bool) (l : List D) : ptrIn (.bool b :: l) = ptrIn l := rfl
theorem ptrIn_str (s : List UInt8) (l : List D) : ptrIn (.str s :: l) = ptrIn l := rfl
theorem ptrIn_agg (cs l : List D) : ptrIn (.agg cs :: l) = ptrIn l := rfl
theorem ptrIn_list (cs l : List D) : ptrIn (.list cs :: l) = ptrIn l := rfl
theorem ptrIn_fix (d : D) (off : Nat) (l : List D) : ptrIn (.fix d off :: l) = ptrIn l := rfl
theorem ptrIn_con (v : Value) (l : List D) : ptrIn (.con v :: l) = ptrIn l := rfl
theorem ptrIn_ptr (k g off : Nat) (l : List D) : ptrIn (.ptr k g off :: l) = some (k, g) := rfl
theorem zrm26 : zrooms Tryz.prog 54 = [.no, .no, .no, .no, .full, .full, .no] := by kernel_rfl
theorem zrm54 : zrooms Tryz.prog 123 = [.no, .no, .no] := by kernel_rfl
theorem putR7 (rs : List Room) : putR rs 0 7 [] = [.no, .no, .no, .no, .no, .no, .no] ++ rs.drop 7 := rfl
theorem putR3 (rs : List Room) : putR rs 0 3 [] = [.no, .no, .no] ++ rs.drop 3 := rfl
theorem ptrIn_fn0 (fn : Fn) (l : List D) : ptrIn (.func fn [] [] :: l) = ptrIn l := rfl
theorem ptrIn_fn1 (fn : Fn) (a : D) (o : Nat) (l : List D) : ptrIn (.func fn [] [.fix a o] :: l) = ptrIn l := rfl
theorem ptrIn_fn2 (fn : Fn) (a b : D) (o p : Nat) (l : List D) : ptrIn (.func fn [] [.fix a o, .fix b p] :: l) = ptrIn l := rfl
theorem ptrIn_fm1 (fn : Fn) (a : D) (o : Nat) (l : List D) : ptrIn (.func fn [.fix a o] [] :: l) = ptrIn l := rfl
theorem sbs (a b : Nat) : ((some a : Option Tmp) == some b) = (a == b) := rfl
theorem nbs (b : Nat) : ((none : Option Tmp) == some b) = false := rfl
theorem callS (o : Oper) : callKey o = (match o.op with
    | .call c => (match c.callee with | .value (.func f) => if (f == 47 && o.dst == some 102) = true then some 1000000 else none | _ => none)
    | _ => none) := by
  obtain ⟨dst, op, ty, pos, after, guard⟩ := o
  cases op <;> rfl
theorem osn : (none : Option Tmp).isSome = false := rfl
theorem oss (k : Tmp) : (some k : Option Tmp).isSome = true := rfl
theorem pOkS (slot : Nat → D) (o : Oper) : pOk slot o = (match ptrArgs o slot, callKey o with
  | some (k, _), some K => k == K
  | _, _ => false) := rfl
theorem ty3 : aggOf Tryz.prog 3 = some false ∧ sizeT Tryz.prog 3 = some 1 ∧ Tryz.prog.underlying 3 = some (.int .i64) := ⟨by kernel_rfl, by kernel_rfl, by kernel_rfl⟩
theorem dp3 (cs : List D) (off : Nat) : dpart Tryz.prog 3 cs off = cs[off]? := by simp only [dpart, ty3.1]
theorem ty4 : aggOf Tryz.prog 4 = some false ∧ sizeT Tryz.prog 4 = some 1 ∧ Tryz.prog.underlying 4 = some (.bool) := ⟨by kernel_rfl, by kernel_rfl, by kernel_rfl⟩
theorem dp4 (cs : List D) (off : Nat) : dpart Tryz.prog 4 cs off = cs[off]? := by simp only [dpart, ty4.1]
theorem ty9 : aggOf Tryz.prog 9 = some false ∧ sizeT Tryz.prog 9 = some 1 ∧ Tryz.prog.underlying 9 = some (.string) := ⟨by kernel_rfl, by kernel_rfl, by kernel_rfl⟩
theorem dp9 (cs : List D) (off : Nat) : dpart Tryz.prog 9 cs off = cs[off]? := by simp only [dpart, ty9.1]
theorem ty5 : aggOf Tryz.prog 5 = some false ∧ sizeT Tryz.prog 5 = some 1 ∧ Tryz.prog.underlying 5 = some (.int .u8) := ⟨by kernel_rfl, by kernel_rfl, by kernel_rfl⟩
theorem dp5 (cs : List D) (off : Nat) : dpart Tryz.prog 5 cs off = cs[off]? := by simp only [dpart, ty5.1]
theorem ty26 : aggOf Tryz.prog 54 = some true ∧ sizeT Tryz.prog 54 = some 7 := ⟨by kernel_rfl, by kernel_rfl⟩
theorem dp26 (x0 x1 x2 x3 x4 x5 x6 : D) : dpart Tryz.prog 54 [x0, x1, x2, x3, x4, x5, x6] 0 = some (.agg [x0, x1, x2, x3, x4, x5, x6]) := by simp only [dpart, ty26.1, ty26.2]; rfl
theorem fa26_0 (d : D) (off : Nat) : dfieldAddr Tryz.prog 54 (.fix d off) 0 = some (.fix d (off + 0)) := by kernel_rfl
theorem fp26_0 (k g off : Nat) : dfieldAddr Tryz.prog 54 (.ptr k g off) 0 = some (.ptr k g (off + 0)) := by kernel_rfl
theorem fa26_1 (d : D) (off : Nat) : dfieldAddr Tryz.prog 54 (.fix d off) 1 = some (.fix d (off + 1)) := by kernel_rfl
theorem fp26_1 (k g off : Nat) : dfieldAddr Tryz.prog 54 (.ptr k g off) 1 = some (.ptr k g (off + 1)) := by kernel_rfl
theorem fa26_2 (d : D) (off : Nat) : dfieldAddr Tryz.prog 54 (.fix d off) 2 = some (.fix d (off + 2)) := by kernel_rfl
theorem fp26_2 (k g off : Nat) : dfieldAddr Tryz.prog 54 (.ptr k g off) 2 = some (.ptr k g (off + 2)) := by kernel_rfl
theorem fa26_3 (d : D) (off : Nat) : dfieldAddr Tryz.prog 54 (.fix d off) 3 = some (.fix d (off + 3)) := by kernel_rfl
theorem fp26_3 (k g off : Nat) : dfieldAddr Tryz.prog 54 (.ptr k g off) 3 = some (.ptr k g (off + 3)) := by kernel_rfl
theorem fa26_4 (d : D) (off : Nat) : dfieldAddr Tryz.prog 54 (.fix d off) 4 = some (.fix d (off + 4)) := by kernel_rfl
theorem fp26_4 (k g off : Nat) : dfieldAddr Tryz.prog 54 (.ptr k g off) 4 = some (.ptr k g (off + 4)) := by kernel_rfl
theorem fa26_5 (d : D) (off : Nat) : dfieldAddr Tryz.prog 54 (.fix d off) 5 = some (.fix d (off + 5)) := by kernel_rfl
theorem fp26_5 (k g off : Nat) : dfieldAddr Tryz.prog 54 (.ptr k g off) 5 = some (.ptr k g (off + 5)) := by kernel_rfl
theorem fa26_6 (d : D) (off : Nat) : dfieldAddr Tryz.prog 54 (.fix d off) 6 = some (.fix d (off + 6)) := by kernel_rfl
theorem fp26_6 (k g off : Nat) : dfieldAddr Tryz.prog 54 (.ptr k g off) 6 = some (.ptr k g (off + 6)) := by kernel_rfl
theorem ty54 : aggOf Tryz.prog 123 = some true ∧ sizeT Tryz.prog 123 = some 3 := ⟨by kernel_rfl, by kernel_rfl⟩
theorem dp54 (x0 x1 x2 : D) : dpart Tryz.prog 123 [x0, x1, x2] 0 = some (.agg [x0, x1, x2]) := by simp only [dpart, ty54.1, ty54.2]; rfl
theorem fa54_0 (d : D) (off : Nat) : dfieldAddr Tryz.prog 123 (.fix d off) 0 = some (.fix d (off + 0)) := by kernel_rfl
theorem fp54_0 (k g off : Nat) : dfieldAddr Tryz.prog 123 (.ptr k g off) 0 = some (.ptr k g (off + 0)) := by kernel_rfl
theorem fa54_1 (d : D) (off : Nat) : dfieldAddr Tryz.prog 123 (.fix d off) 1 = some (.fix d (off + 1)) := by kernel_rfl
theorem fp54_1 (k g off : Nat) : dfieldAddr Tryz.prog 123 (.ptr k g off) 1 = some (.ptr k g (off + 1)) := by kernel_rfl
theorem fa54_2 (d : D) (off : Nat) : dfieldAddr Tryz.prog 123 (.fix d off) 2 = some (.fix d (off + 2)) := by kernel_rfl
theorem fp54_2 (k g off : Nat) : dfieldAddr Tryz.prog 123 (.ptr k g off) 2 = some (.ptr k g (off + 2)) := by kernel_rfl
theorem zr26 : zeroOf Tryz.prog 54 = some [.int .i64 0, .int .i64 0, .str [], .str [], .list [], .list [], .str []] := by kernel_rfl
theorem zr54 : zeroOf Tryz.prog 123 = some [.str [], .str [], .str []] := by kernel_rfl
theorem ty22 : elemT Tryz.prog 22 = some 54 ∧ Tryz.prog.underlying 22 = some (.slice 54) ∧ aggOf Tryz.prog 22 = some false := ⟨by kernel_rfl, by kernel_rfl, by kernel_rfl⟩
theorem dp22 (cs : List D) (off : Nat) : dpart Tryz.prog 22 cs off = cs[off]? := by simp only [dpart, ty22.2.2]
theorem ia22 (es : List D) (ki : IntKind) (i : Int) : dindexAddr Tryz.prog 22 (.list es) (.int ki i) = if 0 ≤ i ∧ i < es.length then (if (dcells (es.getD i.toNat .bad)).length = 7 then some (.fix (es.getD i.toNat .bad) 0) else none) else none := by
  simp only [dindexAddr, ty22.1, ty26.2]
theorem len22 (l : List D) : dlen Tryz.prog #[22] (.list l) = some (.int .i64 l.length) := by kernel_rfl
theorem sl22 (es : List D) (lo hi : Option D) : dslice Tryz.prog 22 (.list es) lo hi none = if szOk 7 es = true then (dopt hi es.length es.length).bind fun h => (dopt lo h 0).map fun l => .list ((es.take h).drop l) else none := by kernel_rfl
theorem ty23 : elemT Tryz.prog 52 = some 123 ∧ Tryz.prog.underlying 52 = some (.slice 123) ∧ aggOf Tryz.prog 52 = some false := ⟨by kernel_rfl, by kernel_rfl, by kernel_rfl⟩
theorem dp23 (cs : List D) (off : Nat) : dpart Tryz.prog 52 cs off = cs[off]? := by simp only [dpart, ty23.2.2]
theorem ia23 (es : List D) (ki : IntKind) (i : Int) : dindexAddr Tryz.prog 52 (.list es) (.int ki i) = if 0 ≤ i ∧ i < es.length then (if (dcells (es.getD i.toNat .bad)).length = 3 then some (.fix (es.getD i.toNat .bad) 0) else none) else none := by
  simp only [dindexAddr, ty23.1, ty54.2]
theorem len23 (l : List D) : dlen Tryz.prog #[52] (.list l) = some (.int .i64 l.length) := by kernel_rfl
theorem sl23 (es : List D) (lo hi : Option D) : dslice Tryz.prog 52 (.list es) lo hi none = if szOk 3 es = true then (dopt hi es.length es.length).bind fun h => (dopt lo h 0).map fun l => .list ((es.take h).drop l) else none := by kernel_rfl
theorem ty24 : elemT Tryz.prog 24 = some 9 ∧ Tryz.prog.underlying 24 = some (.slice 9) ∧ aggOf Tryz.prog 24 = some false := ⟨by kernel_rfl, by kernel_rfl, by kernel_rfl⟩
theorem dp24 (cs : List D) (off : Nat) : dpart Tryz.prog 24 cs off = cs[off]? := by simp only [dpart, ty24.2.2]
theorem ia24 (es : List D) (ki : IntKind) (i : Int) : dindexAddr Tryz.prog 24 (.list es) (.int ki i) = if 0 ≤ i ∧ i < es.length then (if (dcells (es.getD i.toNat .bad)).length = 1 then some (.fix (es.getD i.toNat .bad) 0) else none) else none := by
  simp only [dindexAddr, ty24.1, ty9.2.1]
theorem len24 (l : List D) : dlen Tryz.prog #[24] (.list l) = some (.int .i64 l.length) := by kernel_rfl
theorem sl24 (es : List D) (lo hi : Option D) : dslice Tryz.prog 24 (.list es) lo hi none = if szOk 1 es = true then (dopt hi es.length es.length).bind fun h => (dopt lo h 0).map fun l => .list ((es.take h).drop l) else none := by kernel_rfl
theorem ty39 : elemT Tryz.prog 43 = some 3 ∧ Tryz.prog.underlying 43 = some (.slice 3) ∧ aggOf Tryz.prog 43 = some false := ⟨by kernel_rfl, by kernel_rfl, by kernel_rfl⟩
theorem dp39 (cs : List D) (off : Nat) : dpart Tryz.prog 43 cs off = cs[off]? := by simp only [dpart, ty39.2.2]
theorem ia39 (es : List D) (ki : IntKind) (i : Int) : dindexAddr Tryz.prog 43 (.list es) (.int ki i) = if 0 ≤ i ∧ i < es.length then (if (dcells (es.getD i.toNat .bad)).length = 1 then some (.fix (es.getD i.toNat .bad) 0) else none) else none := by
  simp only [dindexAddr, ty39.1, ty3.2.1]
theorem len39 (l : List D) : dlen Tryz.prog #[43] (.list l) = some (.int .i64 l.length) := by kernel_rfl
theorem sl39 (es : List D) (lo hi : Option D) : dslice Tryz.prog 43 (.list es) lo hi none = if szOk 1 es = true then (dopt hi es.length es.length).bind fun h => (dopt lo h 0).map fun l => .list ((es.take h).drop l) else none := by kernel_rfl
theorem ty81 : elemT Tryz.prog 68 = some 5 ∧ Tryz.prog.underlying 68 = some (.slice 5) ∧ aggOf Tryz.prog 68 = some false := ⟨by kernel_rfl, by kernel_rfl, by kernel_rfl⟩
theorem dp81 (cs : List D) (off : Nat) : dpart Tryz.prog 68 cs off = cs[off]? := by simp only [dpart, ty81.2.2]
theorem ia81 (es : List D) (ki : IntKind) (i : Int) : dindexAddr Tryz.prog 68 (.list es) (.int ki i) = if 0 ≤ i ∧ i < es.length then (if (dcells (es.getD i.toNat .bad)).length = 1 then some (.fix (es.getD i.toNat .bad) 0) else none) else none := by
  simp only [dindexAddr, ty81.1, ty5.2.1]
theorem len81 (l : List D) : dlen Tryz.prog #[68] (.list l) = some (.int .i64 l.length) := by kernel_rfl
theorem sl81 (es : List D) (lo hi : Option D) : dslice Tryz.prog 68 (.list es) lo hi none = if szOk 1 es = true then (dopt hi es.length es.length).bind fun h => (dopt lo h 0).map fun l => .list ((es.take h).drop l) else none := by kernel_rfl
theorem len9 (s : List UInt8) : dlen Tryz.prog #[9] (.str s) = some (.int .i64 s.length) := by kernel_rfl
theorem eq54 (a1 a2 a3 b1 b2 b3 : List UInt8) : dStructEq Tryz.prog 123 [.str a1, .str a2, .str a3] [.str b1, .str b2, .str b3] = some (a1 == b1 && (a2 == b2 && (a3 == b3))) := by
  have h : dStructEq Tryz.prog 123 [.str a1, .str a2, .str a3] [.str b1, .str b2, .str b3] = (match some (a1 == b1) with | some true => (match some (a2 == b2) with | some true => (match some (a3 == b3) with | some true => some true | r => r) | r => r) | r => r) := by kernel_rfl
  rw [h]
  cases a1 == b1 <;> cases a2 == b2 <;> cases a3 == b3 <;> rfl
theorem cv981 (l : List UInt8) : dconv Tryz.prog 9 68 (.str l) = some (.list (l.map fun b => .int .u8 b.toNat)) := by kernel_rfl
theorem szOk_cons (sz : Nat) (e : D) (es : List D) : szOk sz (e :: es) = ((dcells e).length == sz) := rfl
theorem szOk_nil (sz : Nat) : szOk sz [] = true := rfl
theorem plainR_s (d : D) (r : List Room) : plainR (some (d, r, [])) = some (d, r) := rfl
end Go.Av
namespace Go.Av
open Go.Proofs
theorem ap22 (es fs : List D) (r : List Room) : dappend Tryz.prog #[22, 22] (.list es) (.list fs) r = if lenOk (es.length + fs.length) 112 = true ∧ szOk 7 fs = true ∧ szOk 7 es = true ∧ (r = [.full] ∨ r = [.own 54] ∨ r = [.fresh]) then some (.list (es ++ fs), 54) else none := by
  have : (Tryz.prog.info? 54).map (fun i => (infoOk i, i.size, i.bytes)) = some (true, 7, 112) := by kernel_rfl
  obtain ⟨i, hi, h⟩ := Option.map_eq_some_iff.1 this
  injection h with h1 h2
  injection h2 with h2 h3
  simp only [dappend, ty22.1, hi, h1, h2, h3, if_true, true_and]
theorem ap39 (es fs : List D) (r : List Room) : dappend Tryz.prog #[43, 43] (.list es) (.list fs) r = if lenOk (es.length + fs.length) 8 = true ∧ szOk 1 fs = true ∧ szOk 1 es = true ∧ (r = [.full] ∨ r = [.own 3] ∨ r = [.fresh]) then some (.list (es ++ fs), 3) else none := by
  have : (Tryz.prog.info? 3).map (fun i => (infoOk i, i.size, i.bytes)) = some (true, 1, 8) := by kernel_rfl
  obtain ⟨i, hi, h⟩ := Option.map_eq_some_iff.1 this
  injection h with h1 h2
  injection h2 with h2 h3
  simp only [dappend, ty39.1, hi, h1, h2, h3, if_true, true_and]
theorem bs22e : dbuildSlice Tryz.prog 22 0 [] = some (.list []) := by kernel_rfl
theorem bs39e : dbuildSlice Tryz.prog 43 0 [] = some (.list []) := by kernel_rfl
theorem bs39 (z : Int) : dbuildSlice Tryz.prog 43 1 [(0, .int .i64 z)] = some (.list [.int .i64 z]) := by kernel_rfl
theorem bs22 (p k : Int) (sp nm : List UInt8) (la ls : List D) (tx : List UInt8) : dbuildSlice Tryz.prog 22 1 [(0, .agg [.int .i64 p, .int .i64 k, .str sp, .str nm, .list la, .list ls, .str tx])] = some (.list [.agg [.int .i64 p, .int .i64 k, .str sp, .str nm, .list la, .list ls, .str tx]]) := by kernel_rfl
theorem bd26 : dbuild Tryz.prog 54 [] = some (.agg [.int .i64 0, .int .i64 0, .str [], .str [], .list [], .list [], .str []]) := by kernel_rfl
theorem bt39 : bytesT Tryz.prog 43 = false := by kernel_rfl
theorem bt22 : bytesT Tryz.prog 22 = false := by kernel_rfl
theorem bt23 : bytesT Tryz.prog 52 = false := by kernel_rfl
theorem bt24 : bytesT Tryz.prog 24 = false := by kernel_rfl
end Go.Av
namespace Go.Av
open Go.Proofs
end Go.Av
namespace Go.Av
open Go.Proofs
theorem cv53 (k : IntKind) (n : Int) : dconv Tryz.prog 5 3 (.int k n) = some (.int .i64 (IntKind.i64.wrap n)) := by kernel_rfl
end Go.Av
