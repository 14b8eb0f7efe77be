/- Lists of integers in memory: slices of the call's own, and what a function that hands one back leaves. Over any program. No conditions but those that each law names. -/
import Derived.Test.YtcogfddcdpgpkaaGreatDoorApp
namespace Go.Proofs.YtcogfddcdpgpkaaGreatDoor
open Go.RowKit

/-- The length of a slice value. -/
def lenV : Value → Nat | .slice _ n _ => n | _ => 0

/-- A slice value of the call's own (its block from base on, or without room) that holds just these integers. -/
def OwnL (w : World) (base : Nat) (e : TypeId) (k : IntKind) (v : Value) (l : List Int) : Prop := OwnR w base e 1 v l.length (l.map (Value.int k))

section
variable {w w' : World} {base : Nat} {e : TypeId} {size n : Nat} {v : Value} {xs : List Value}
theorem OwnR.form (h : OwnR w base e size v n xs) : ∃ a c, v = .slice a n c ∧ n ≤ c ∧ xs.length = n * size ∧ Sl w w.heap.size a xs := by
  rcases h with ⟨rfl, rfl, A, rfl⟩ | h
  · exact ⟨A, 0, rfl, Nat.le_refl _, by simp, Sl.nil⟩
  · have h' := h
    rcases h.2 with ⟨hv, hn⟩ | ⟨g, cap, cur, hv, _, hg, h1, _, _, htake⟩
    · subst hn
      have : xs = [] := List.length_eq_zero_iff.1 (by simpa using h.1)
      subst this
      exact ⟨none, 0, hv, Nat.le_refl _, by simp, Sl.nil⟩
    · refine ⟨_, cap, hv, h1, h.1, ?_⟩
      rw [hv] at h'
      exact Sl.of_own h'
theorem OwnR.alloc (h : OwnR w base e size v n xs) (o : Obj) : OwnR (w.alloc o) base e size v n xs := h.imp id fun h => World.ownsRow.alloc h o
theorem OwnR.drew (h : OwnR w base e size v n xs) : OwnR w.drew base e size v n xs := h
theorem OwnR.drewN (h : OwnR w base e size v n xs) (m : Nat) : OwnR (w.drewN m) base e size v n xs := h
theorem OwnR.grown {row : Option Nat} (h : OwnR w base e size v n xs) (hg : w.grownBy w' row) (hne : v.ownBlock = none ∨ v.ownBlock ≠ row) : OwnR w' base e size v n xs := h.imp id fun h => World.ownsRow.kept h hg hne
/-- Kept by whatever turns nothing of what was there. -/
theorem OwnR.below (h : OwnR w base e size v n xs) (hb : Below w.heap.size w w') : OwnR w' base e size v n xs := by
  refine h.imp id fun h => ⟨h.1, ?_⟩
  rcases h.2 with h1 | ⟨g, cap, cur, hv, hb0, hg, h1⟩
  · exact .inl h1
  · exact .inr ⟨g, cap, cur, hv, hb0, Bk.below hg hb (Bk.lt hg), h1⟩
theorem OwnR.mono {base' : Nat} (h : OwnR w base e size v n xs) (hb : base' ≤ base) : OwnR w base' e size v n xs := by
  refine h.imp id fun h => ⟨h.1, ?_⟩
  rcases h.2 with h1 | ⟨g, cap, cur, hv, hb0, h1⟩
  · exact .inl h1
  · exact .inr ⟨g, cap, cur, hv, by omega, h1⟩
theorem OwnR.zero (w : World) (base : Nat) (e : TypeId) (size : Nat) (A : Option Addr) : OwnR w base e size (.slice A 0 0) 0 [] := .inl ⟨rfl, rfl, A, rfl⟩
end

section
variable {w w' : World} {base : Nat} {e : TypeId} {k : IntKind} {v : Value} {l : List Int}
theorem OwnL.form (h : OwnL w base e k v l) : ∃ a c, v = .slice a l.length c ∧ l.length ≤ c ∧ Sl w w.heap.size a (l.map (Value.int k)) := by
  obtain ⟨a, c, h1, h2, _, h3⟩ := OwnR.form h
  exact ⟨a, c, h1, h2, h3⟩
theorem OwnL.sl {a : Option Addr} {n c : Nat} (h : OwnL w base e k (.slice a n c) l) : Sl w w.heap.size a (l.map (Value.int k)) := by
  obtain ⟨a', c', hv, _, hs⟩ := h.form
  injection hv with h1 h2 h3
  subst h1
  exact hs
theorem OwnL.len {a : Option Addr} {n c : Nat} (h : OwnL w base e k (.slice a n c) l) : n = l.length ∧ l.length ≤ c := by
  obtain ⟨a', c', hv, hc, _⟩ := h.form
  injection hv with h1 h2 h3
  subst h3
  exact ⟨h2, hc⟩
theorem OwnL.alloc (h : OwnL w base e k v l) (o : Obj) : OwnL (w.alloc o) base e k v l := OwnR.alloc h o
theorem OwnL.drew (h : OwnL w base e k v l) : OwnL w.drew base e k v l := h
theorem OwnL.drewN (h : OwnL w base e k v l) (n : Nat) : OwnL (w.drewN n) base e k v l := h
theorem OwnL.grown {row : Option Nat} (h : OwnL w base e k v l) (hg : w.grownBy w' row) (hne : v.ownBlock = none ∨ v.ownBlock ≠ row) : OwnL w' base e k v l := OwnR.grown h hg hne
/-- Kept by whatever turns nothing of what was there. -/
theorem OwnL.below (h : OwnL w base e k v l) (hb : Below w.heap.size w w') : OwnL w' base e k v l := OwnR.below h hb
theorem OwnL.mono {base' : Nat} (h : OwnL w base e k v l) (hb : base' ≤ base) : OwnL w base' e k v l := OwnR.mono h hb
theorem OwnL.nil (w : World) (base : Nat) (e : TypeId) (k : IntKind) (A : Option Addr) : OwnL w base e k (.slice A 0 0) [] := OwnR.zero w base e 1 A
end

/-- What a function that hands back a list of integers leaves. -/
def RetL (k : IntKind) (w : World) (l : List Int) (e : Ending) (w' : World) : Prop :=
  ∃ a c, e = .returned (.slice a l.length c) ∧ l.length ≤ c ∧ Sl w' w'.heap.size a (l.map (Value.int k)) ∧ Below w.heap.size w w'
theorem RetL.of {k : IntKind} {w w' : World} {l : List Int} {e : Ending} {base : Nat} {t : TypeId} {v : Value} (he : e = .returned v) (ho : OwnL w' base t k v l) (hb : Below w.heap.size w w') : RetL k w l e w' := by
  obtain ⟨a, c, rfl, hc, hs⟩ := ho.form
  exact ⟨a, c, he, hc, hs, hb⟩
/-- The same, and the list is of the call's own. -/
def RetO (t : TypeId) (k : IntKind) (w : World) (l : List Int) (e : Ending) (w' : World) : Prop :=
  ∃ v, e = .returned v ∧ OwnL w' w.heap.size t k v l ∧ Below w.heap.size w w'
/-- A plain answer, nothing that was there turned. -/
def RetV (w : World) (v : Value) (e : Ending) (w' : World) : Prop := e = .returned v ∧ Below w.heap.size w w'

section
variable {P : Program} {ops : Array Oper} {rest : List Oper} {o : Oper} {a : Act} {Q : Exit → Act → World → Prop}
theorem int_cells (k : IntKind) (l : List Int) : ∀ u ∈ l.map (Value.int k), u.oneCell' = true := by
  intro u hu
  simp at hu
  obtain ⟨z, _, rfl⟩ := hu
  rfl
/-- append of a list. -/
theorem wp_appL {K : Act → World → Prop} (w0 : World) (s x : Operand) (t : TypeId) (ho : o.op = .call { callee := .builtin .append, args := #[s, x], argTypes := #[t, t] })
    {e : TypeId} {bytes : Nat} (E : EI P t e 1 bytes) (hb8 : bytes ≤ 8) (base : Nat) (k : IntKind) (v : Value) (l : List Int) (hs : a.eval s = v) (hown : OwnL w0 base e k v l)
    (B : Nat) (A : Option Addr) (m c : Nat) (news : List Int) (hx : a.eval x = .slice A m c) (hm : m = news.length) (hr : Sl w0 B A (news.map (Value.int k)))
    (hl : l.length ≤ 1099511627776) (hl2 : news.length ≤ 1099511627776) (hbase : base ≤ w0.heap.size)
    (h : ∀ v' w', OwnL w' base e k v' (l ++ news) → w0.grownBy w' v.ownBlock → Below base w0 w' → K (a.put o.dst v') w') : o.wp P a w0 K Q := by
  subst hm
  refine wp_appR w0 s x t ho E base v l.length _ hs hown B A news.length c _ hx hr (by simp) (int_cells k news) (by unfold maxLen; omega) ?_ hbase ?_
  · have : (l.length + news.length) * bytes ≤ (l.length + news.length) * 8 := Nat.mul_le_mul_left _ hb8
    omega
  · intro v' w' ho' hg hbw
    refine h v' w' ?_ hg hbw
    unfold OwnL
    simpa using ho'
theorem appL_sl (w0 : World) (hgd : o.guard = none) (s x : Operand) (t : TypeId) (ho : o.op = .call { callee := .builtin .append, args := #[s, x], argTypes := #[t, t] })
    {e : TypeId} {bytes : Nat} (E : EI P t e 1 bytes) (hb8 : bytes ≤ 8) (base : Nat) (k : IntKind) (v : Value) (l : List Int) (hs : a.eval s = v) (hown : OwnL w0 base e k v l)
    (B : Nat) (A : Option Addr) (m c : Nat) (news : List Int) (hx : a.eval x = .slice A m c) (hm : m = news.length) (hr : Sl w0 B A (news.map (Value.int k)))
    (hl : l.length ≤ 1099511627776) (hl2 : news.length ≤ 1099511627776) (hbase : base ≤ w0.heap.size)
    (h : ∀ v' w', OwnL w' base e k v' (l ++ news) → w0.grownBy w' v.ownBlock → Below base w0 w' → wpList P ops Q rest (a.put o.dst v') w') :
    wpList P ops Q (o :: rest) a w0 :=
  wpList_plain hgd fun _ hK => wp_appL w0 s x t ho E hb8 base k v l hs hown B A m c news hx hm hr hl hl2 hbase fun v' w' h2 h3 h4 => hK _ _ (h v' w' h2 h3 h4)
theorem step_appL {K : Act → World → Prop} {F : Prop} (w0 : World) (hgd : o.guard = none) (s x : Operand) (t : TypeId) (ho : o.op = .call { callee := .builtin .append, args := #[s, x], argTypes := #[t, t] })
    {e : TypeId} {bytes : Nat} (E : EI P t e 1 bytes) (hb8 : bytes ≤ 8) (base : Nat) (k : IntKind) (v : Value) (l : List Int) (hs : a.eval s = v) (hown : OwnL w0 base e k v l)
    (B : Nat) (A : Option Addr) (m c : Nat) (news : List Int) (hx : a.eval x = .slice A m c) (hm : m = news.length) (hr : Sl w0 B A (news.map (Value.int k)))
    (hl : l.length ≤ 1099511627776) (hl2 : news.length ≤ 1099511627776) (hbase : base ≤ w0.heap.size)
    (h : ∀ v' w', OwnL w' base e k v' (l ++ news) → w0.grownBy w' v.ownBlock → Below base w0 w' → K (a.put o.dst v') w') :
    if Region.wanted o (yielded ops a.tmps) = true then Oper.wp P o a w0 K Q else F := by
  have hw : Region.wanted o (yielded ops a.tmps) = true := by simp [Region.wanted, hgd]
  rw [if_pos hw]
  exact wp_appL w0 s x t ho E hb8 base k v l hs hown B A m c news hx hm hr hl hl2 hbase h
/-- append to a slice of integers that is full. -/
theorem appL_full (w0 : World) (hgd : o.guard = none) (s x : Operand) (t : TypeId) (ho : o.op = .call { callee := .builtin .append, args := #[s, x], argTypes := #[t, t] })
    {e : TypeId} {bytes : Nat} (E : EI P t e 1 bytes) (hb8 : bytes ≤ 8) (k : IntKind) (A0 : Option Addr) (n : Nat) (B0 : Nat) (l : List Int) (hs : a.eval s = .slice A0 n n) (hn : n = l.length) (h0 : Sl w0 B0 A0 (l.map (Value.int k))) (hB0 : B0 ≤ w0.heap.size)
    (B : Nat) (A : Option Addr) (m c : Nat) (news : List Int) (hx : a.eval x = .slice A m c) (hm : m = news.length) (hr : Sl w0 B A (news.map (Value.int k)))
    (hl : l.length ≤ 1099511627776) (hl2 : news.length ≤ 1099511627776)
    (h : ∀ A' m' c' w', m' = (l ++ news).length → m' ≤ c' → Sl w' w'.heap.size A' ((l ++ news).map (Value.int k)) → Below w0.heap.size w0 w' → wpList P ops Q rest (a.put o.dst (.slice A' m' c')) w') :
    wpList P ops Q (o :: rest) a w0 := by
  subst hn hm
  refine wpList_plain hgd fun _ hK => wp_app_full w0 s x t ho E A0 l.length B0 _ hs h0 (by simp) hB0 B A news.length c _ hx hr (by simp) (int_cells k news) (by unfold maxLen; omega) ?_ ?_
  · have : (l.length + news.length) * bytes ≤ (l.length + news.length) * 8 := Nat.mul_le_mul_left _ hb8
    omega
  · intro A' c' w' h1 h2 h3
    exact hK _ _ (h A' _ c' w' (by simp) h1 (by simpa using h2) h3)
theorem Sl.litM (w : World) (t : TypeId) (k : IntKind) (l : List Int) (cs : Array Value) (fr : Nat × Nat) (h : cs = (l.map (Value.int k)).toArray) : Sl (w.alloc (.cells cs t fr)) (w.heap.size + 1) (some ⟨w.heap.size, 0, none⟩) (l.map (Value.int k)) := fun _ => by
  subst h
  refine ⟨w.heap.size, 0, rfl, Nat.lt_succ_self _, fun i hi => ?_⟩
  rw [Nat.zero_add, World.cell?_alloc_mark]
  simp at hi
  simp [hi]
/-- append of one integer that has just been laid. -/
theorem appL_one (w0 : World) (hgd : o.guard = none) (s x : Operand) (t : TypeId) (ho : o.op = .call { callee := .builtin .append, args := #[s, x], argTypes := #[t, t] })
    {e : TypeId} {bytes : Nat} (E : EI P t e 1 bytes) (hb8 : bytes ≤ 8) (base : Nat) (k : IntKind) (v : Value) (l : List Int) (z : Int) (hs : a.eval s = v) (hown : OwnL w0 base e k v l)
    (hx : a.eval x = .slice (some ⟨w0.heap.size, 0, none⟩) 1 1) (hl : l.length ≤ 1099511627776) (hbase : base ≤ w0.heap.size)
    (h : ∀ v' w', OwnL w' base e k v' (l ++ [z]) → w0.grownBy w' v.ownBlock → Below base w0 w' → wpList P ops Q rest (a.put o.dst v') w') :
    wpList P ops Q (o :: rest) a (w0.alloc (.cells #[.int k z] e)) := by
  refine appL_sl (w0.alloc (.cells #[.int k z] e)) hgd s x t ho E hb8 base k v l hs (hown.alloc _) _ _ 1 1 [z] hx rfl (Sl.lit w0 e #[.int k z]) hl (by simp) (Nat.le_trans hbase (by simp)) ?_
  intro v' w' ho' hg hbw
  refine h v' w' ho' ⟨hg.os, hg.tape, hg.output, Nat.le_trans (by simp) hg.size, fun k hk hne => (hg.block k (by simp; omega) hne).trans (Below.heap_alloc w0 _ k hk)⟩ ?_
  exact ((Below.refl base w0).alloc hbase _).trans hbw
/-- make([]T, 0, n). -/
theorem makeL_own (w0 : World) (hgd : o.guard = none) (l c : Operand) (t : TypeId) (ho : o.op = Op.makeSlice t l c) {e : TypeId} {bytes : Nat} (E : EI P t e 1 bytes) (hb8 : bytes ≤ 8) (k : IntKind)
    (kl kc : IntKind) (n : Nat) (hl : a.eval l = .int kl 0) (hc : a.eval c = .int kc (n : Int)) (hn : n ≤ 1099511627776)
    (h : ∀ v w', OwnL w' w0.heap.size e k v [] → w0.grownBy w' none → Below w0.heap.size w0 w' → wpList P ops Q rest (a.put o.dst v) w') :
    wpList P ops Q (o :: rest) a w0 := by
  refine make_own w0 hgd l c t ho E w0.heap.size kl kc n hl hc ?_ (by unfold maxLen; omega) (Nat.le_refl _) ?_
  · have : bytes * n ≤ 8 * n := Nat.mul_le_mul_right _ hb8
    omega
  · intro w' h1 h2 h3
    exact h _ w' (.inr (by simpa using h1)) h2 h3
end
end Go.Proofs.YtcogfddcdpgpkaaGreatDoor
