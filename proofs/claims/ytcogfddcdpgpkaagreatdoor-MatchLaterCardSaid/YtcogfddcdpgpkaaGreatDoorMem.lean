/- Words for memory, over any program: blocks known whole (Bk), slices that read as a list of cells (Sl), and how both are kept. No conditions. -/
import Derived.WalkKit
import Derived.WalkSpells
import Derived.WalkLawsBesides
import Derived.Lib.Hide
namespace Go.Proofs.YtcogfddcdpgpkaaGreatDoor
open Go.RowKit

/-- Block g holds just the cells cs, of element type t, none of them frozen. -/
def Bk (w : World) (g : Nat) (t : TypeId) (cs : Array Value) : Prop := w.heap[g]? = some (.cells cs t (0, 0))

/-- A slice value with this address reads as the cells xs, which lie in a block below B. -/
def Sl (w : World) (B : Nat) (a : Option Addr) (xs : List Value) : Prop :=
  xs ≠ [] → ∃ b off, a = some ⟨b, off, none⟩ ∧ b < B ∧ ∀ i (h : i < xs.length), w.cell? ⟨b, off + i, none⟩ = some xs[i]

section
variable {w w' : World} {g : Nat} {t : TypeId} {cs : Array Value}

theorem Bk.lt (h : Bk w g t cs) : g < w.heap.size := by
  apply Classical.byContradiction
  intro hn
  have : w.heap[g]? = none := Array.getElem?_eq_none (by omega)
  unfold Bk at h
  rw [this] at h
  cases h
theorem Bk.cell (h : Bk w g t cs) (i : Nat) : w.cell? ⟨g, i, none⟩ = cs[i]? := cell_of_row w g i cs t (0, 0) h
theorem Bk.free (h : Bk w g t cs) (i : Nat) : w.frozen? ⟨g, i, none⟩ = false := frozen_of_row w g i cs t h
theorem Bk.new (w : World) (t : TypeId) (cs : Array Value) : Bk (w.alloc (.cells cs t)) w.heap.size t cs := heap_alloc_new w _
theorem Bk.put (h : Bk w g t cs) (i : Nat) (u : Value) : Bk (w.setCell ⟨g, i, none⟩ u) g t (cs.setIfInBounds i u) := heap_setCell_same w g i cs t u h
theorem Bk.below {B : Nat} (h : Bk w g t cs) (hb : Below B w w') (hg : g < B) : Bk w' g t cs := (hb.block g hg).trans h
theorem Bk.grown {row : Option Nat} (h : Bk w g t cs) (hb : w.grownBy w' row) (hg : some g ≠ row) : Bk w' g t cs := (hb.block g h.lt hg).trans h
theorem Bk.drew (h : Bk w g t cs) : Bk w.drew g t cs := h
theorem Bk.drewN (h : Bk w g t cs) (n : Nat) : Bk (w.drewN n) g t cs := h
theorem Bk.alloc (h : Bk w g t cs) (o : Obj) : Bk (w.alloc o) g t cs := (Below.heap_alloc w o g h.lt).trans h
theorem Bk.other (h : Bk w g t cs) {p : Addr} (hp : g ≠ p.block) (u : Value) : Bk (w.setCell p u) g t cs := (Below.heap_setCell w p u g hp).trans h

theorem grown_put {a : World} {r : Option Nat} (h : a.grownBy w r) {p : Addr} (hp : r = some p.block) (u : Value) : a.grownBy (w.setCell p u) r :=
  ⟨h.os, h.tape, h.output, by simpa using h.size, fun k hk hne => (Below.heap_setCell w p u k (fun e => hne (by rw [hp, e]))).trans (h.block k hk hne)⟩
theorem grown_new {a : World} {r : Option Nat} (h : a.grownBy w r) (o : Obj) : a.grownBy (w.alloc o) r :=
  ⟨h.os, h.tape, h.output, Nat.le_trans h.size (by simp), fun k hk hne => (Below.heap_alloc w o k (Nat.lt_of_lt_of_le hk h.size)).trans (h.block k hk hne)⟩
theorem grown_drew {a : World} {r : Option Nat} (h : a.grownBy w r) : a.grownBy w.drew r := ⟨h.os, h.tape, h.output, h.size, h.block⟩
theorem below_drewN {B : Nat} {a : World} (h : Below B a w) (n : Nat) : Below B a (w.drewN n) := ⟨h.os, h.tape, h.output, h.size, h.block⟩
theorem below_of_grown {r : Option Nat} (h : w.grownBy w' r) {B : Nat} (hB : B ≤ w.heap.size) (hr : ∀ k, r = some k → B ≤ k) : Below B w w' :=
  (Below.refl B w).grown h hB hr

/-- The same fact for every block: what a chain of 'Below' keeps. -/
theorem below_cells {B : Nat} (hb : Below B w w') : (∀ b o, b < B → w'.cell? ⟨b, o, none⟩ = w.cell? ⟨b, o, none⟩) ∧ (∀ b o, b < B → w'.frozen? ⟨b, o, none⟩ = w.frozen? ⟨b, o, none⟩) :=
  ⟨fun b o h => hb.cell (p := ⟨b, o, none⟩) h, fun b o h => hb.frozen (p := ⟨b, o, none⟩) h⟩
end

section
variable {w w' : World} {B B' : Nat} {a : Option Addr} {xs : List Value}

theorem Sl.nil : Sl w B a [] := fun h => absurd rfl h
theorem Sl.keep (h : Sl w B a xs) (hk : ∀ b o, b < B → w'.cell? ⟨b, o, none⟩ = w.cell? ⟨b, o, none⟩) : Sl w' B a xs := fun hne => by
  obtain ⟨b, off, e, hb, hc⟩ := h hne
  exact ⟨b, off, e, hb, fun i hi => (hk b _ hb).trans (hc i hi)⟩
theorem Sl.mono (h : Sl w B a xs) (hB : B ≤ B') : Sl w B' a xs := fun hne => by
  obtain ⟨b, off, e, hb, hc⟩ := h hne
  exact ⟨b, off, e, Nat.lt_of_lt_of_le hb hB, hc⟩
theorem Sl.below (h : Sl w B a xs) (hb : Below B w w') : Sl w' B a xs := h.keep (below_cells hb).1
theorem Sl.drew (h : Sl w B a xs) : Sl w.drew B a xs := h
theorem Sl.drewN (h : Sl w B a xs) (n : Nat) : Sl (w.drewN n) B a xs := h
theorem Sl.alloc (h : Sl w B a xs) (hB : B ≤ w.heap.size) (o : Obj) : Sl (w.alloc o) B a xs := h.below ((Below.refl B w).alloc hB o)
/-- The cells of a slice of which there is an element. -/
theorem Sl.open_ (h : Sl w B a xs) {k : Nat} (hk : k < xs.length) : ∃ b off, a = some ⟨b, off, none⟩ ∧ b < B ∧ ∀ i (h : i < xs.length), w.cell? ⟨b, off + i, none⟩ = some xs[i] :=
  h (by intro e; subst e; simp at hk)
theorem Sl.of_own {base size n c : Nat} {e : TypeId} (h : w.ownsRow base e size (.slice a n c) n xs) : Sl w w.heap.size a xs := fun hne => by
  rcases h.2 with ⟨hv, hn⟩ | ⟨g, cap, cur, hv, _, hg, _, _, hsz, htake⟩
  · subst hn
    have := h.1
    simp at this
    exact absurd this hne
  · have ha : a = some ⟨g, 0, none⟩ := by injection hv
    subst ha
    refine ⟨g, 0, rfl, Bk.lt hg, fun i hi => ?_⟩
    rw [Nat.zero_add, Bk.cell hg i]
    have hx : xs[i] = (cur.toList.take (n * size))[i]'(by rw [htake]; exact hi) := by simp only [htake]
    rw [hx, List.getElem_take]
    simp
/-- A literal's block, just laid. -/
theorem Sl.lit (w : World) (t : TypeId) (cs : Array Value) : Sl (w.alloc (.cells cs t)) (w.heap.size + 1) (some ⟨w.heap.size, 0, none⟩) cs.toList := fun _ =>
  ⟨w.heap.size, 0, rfl, Nat.lt_succ_self _, fun i hi => by rw [Nat.zero_add, (Bk.new w t cs).cell i]; simp at hi; simp [hi]⟩
/-- A cut from k on, as the model spells its address. -/
theorem Sl.cut (h : Sl w B a xs) {k cap n : Nat} (hk : k ≤ n) (hn : xs.length = n) (hc : n ≤ cap) : Sl w B (if cap = k then a else a.map (·.add k)) (xs.drop k) := fun hne => by
  have hlt : k < n := by
    apply Classical.byContradiction
    intro hge
    exact hne (List.drop_eq_nil_of_le (by omega))
  obtain ⟨b, off, rfl, hb, hcell⟩ := h.open_ (k := k) (by omega)
  rw [if_neg (by omega)]
  refine ⟨b, off + k, ?_, hb, fun i hi => ?_⟩
  · simp [Addr.add]
  · rw [Nat.add_assoc, List.getElem_drop]
    exact hcell (k + i) (by simp at hi; omega)
/-- The beginning of a slice. -/
theorem Sl.take (h : Sl w B a xs) (k : Nat) : Sl w B a (xs.take k) := fun hne => by
  have hne' : xs ≠ [] := by intro e; subst e; simp at hne
  obtain ⟨b, off, e, hb, hc⟩ := h hne'
  refine ⟨b, off, e, hb, fun i hi => ?_⟩
  rw [List.getElem_take]
  exact hc i (by simp at hi; omega)
end

/-- Only draws were made. -/
def Qt (w w' : World) : Prop := ∃ n, w' = w.drewN n
section
variable {w w' : World}
theorem Qt.refl (w : World) : Qt w w := ⟨0, rfl⟩
theorem Qt.drewN (h : Qt w w') (n : Nat) : Qt w (w'.drewN n) := by
  obtain ⟨m, rfl⟩ := h
  exact ⟨m + n, by simp [World.drewN, Nat.add_assoc]⟩
theorem Qt.drew (h : Qt w w') : Qt w w'.drew := by
  obtain ⟨m, rfl⟩ := h
  exact ⟨m + 1, rfl⟩
theorem Qt.cell (h : Qt w w') (a : Addr) : w'.cell? a = w.cell? a := by
  obtain ⟨m, rfl⟩ := h
  rfl
theorem Qt.frozen (h : Qt w w') (a : Addr) : w'.frozen? a = w.frozen? a := by
  obtain ⟨m, rfl⟩ := h
  rfl
theorem Qt.heap (h : Qt w w') : w'.heap = w.heap := by
  obtain ⟨m, rfl⟩ := h
  rfl
theorem Qt.below (h : Qt w w') {B : Nat} : Below B w w' := by
  obtain ⟨m, rfl⟩ := h
  exact below_drewN (Below.refl B w) m
theorem Qt.grown (h : Qt w w') : w.grownBy w' none := by
  obtain ⟨m, rfl⟩ := h
  exact ⟨rfl, rfl, rfl, Nat.le_refl _, fun _ _ _ => rfl⟩
theorem Qt.trans {w'' : World} (h : Qt w w') (h' : Qt w' w'') : Qt w w'' := by
  obtain ⟨m, rfl⟩ := h'
  exact h.drewN m
end

theorem addr_add (b off j : Nat) : (⟨b, off, none⟩ : Addr).add j = ⟨b, off + j, none⟩ := by
  by_cases h : j = 0
  · subst h; simp [Addr.add]
  · simp [Addr.add, h]
theorem len_map_int (k : IntKind) (zs : List Int) : (zs.map (Value.int k)).length = zs.length := by simp
/-- A slice of integers, the cell at i. -/
theorem Sl.int {w : World} {B : Nat} {a : Option Addr} {k : IntKind} {zs : List Int} (h : Sl w B a (zs.map (Value.int k))) {i : Nat} (hi : i < zs.length) :
    ∃ b off, a = some ⟨b, off, none⟩ ∧ b < B ∧ ∀ j, j < zs.length → w.cell? ⟨b, off + j, none⟩ = some (.int k (zs.getD j 0)) := by
  obtain ⟨b, off, e, hb, hc⟩ := h.open_ (k := i) (by simpa using hi)
  refine ⟨b, off, e, hb, fun j hj => ?_⟩
  rw [hc j (by simpa using hj)]
  simp [hj]
theorem ret_int {k : IntKind} {a b : Int} (h : a = b) : Ending.returned (.int k a) = .returned (.int k b) := by rw [h]
theorem ret_bool {a b : Bool} (h : a = b) : Ending.returned (.bool a) = .returned (.bool b) := by rw [h]
end Go.Proofs.YtcogfddcdpgpkaaGreatDoor
