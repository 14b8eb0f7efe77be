/- Laws for make and append on rows of the call's own, over any program, in the words of Mem. No conditions but those that each law names. -/
import Derived.Test.YtcogfddcdpgpkaaGreatDoorMem
namespace Go.Proofs.YtcogfddcdpgpkaaGreatDoor
open Go.RowKit

/-- Slices of type t have elements of type e, of so many cells and bytes each. -/
def EI (P : Program) (t e : TypeId) (size bytes : Nat) : Prop :=
  ∃ i z, P.underlying t = some (.slice e) ∧ P.info? e = some i ∧ i.zero = some z ∧ i.size = size ∧ i.bytes = bytes ∧ z.cells.size = size ∧ 0 < size

theorem EI.mk {P : Program} {t e : TypeId} {z : Value} {size bytes : Nat} (ht : P.underlying t = some (.slice e)) (h : (P.info? e).map (fun i => (i.zero, i.size, i.bytes)) = some (some z, size, bytes)) (hz : z.cells.size = size) (hs : 0 < size) : EI P t e size bytes := by
  obtain ⟨i, hi, h0, h1, h2⟩ := info_parts h
  exact ⟨i, z, ht, hi, h0, h1, h2, hz, hs⟩

section
variable {P : Program} {ops : Array Oper} {rest : List Oper} {o : Oper} {a : Act} {Q : Exit → Act → World → Prop}

theorem run_app_nil (w : World) {t ty e : TypeId} {size bytes base n : Nat} {v : Value} {xs : List Value} (E : EI P t e size bytes) (hown : w.ownsRow base e size v n xs) (c : Nat) :
    (Builtin.append_ #[t, t] ty #[v, .slice none 0 c]).run P w = .ok v w := by
  obtain ⟨i, z, ht, hi, _⟩ := E
  rcases hown.2 with ⟨rfl, rfl⟩ | ⟨g, cap, cur, rfl, _, _, hnc, _⟩
  · simp [Builtin.append_, run_underlying ht, sizeOf, typeInfo, hi, Builtin.lenOf, Builtin.firstCells]
  · simp [Builtin.append_, run_underlying ht, sizeOf, typeInfo, hi, Builtin.lenOf, Builtin.firstCells, hnc, storeCells]

/-- What is behind an append: the row is owned, nothing below its base has turned; nor has any block but the row's old one. -/
theorem own_below {w w' : World} {base size n : Nat} {e : TypeId} {v : Value} {xs : List Value} (hown : w.ownsRow base e size v n xs) (hg : w.grownBy w' v.ownBlock) (hbase : base ≤ w.heap.size) : Below base w w' :=
  below_of_grown hg hbase fun k hk => (hown.lt k hk).1

/-- A row of the call's own, or a slice without any room. -/
def OwnR (w : World) (base : Nat) (e : TypeId) (size : Nat) (v : Value) (n : Nat) (xs : List Value) : Prop :=
  (n = 0 ∧ xs = [] ∧ ∃ A, v = .slice A 0 0) ∨ w.ownsRow base e size v n xs
theorem grown_any {w w' : World} (h : w.grownBy w' none) (row : Option Nat) : w.grownBy w' row := ⟨h.os, h.tape, h.output, h.size, fun k hk _ => h.block k hk (by simp)⟩

theorem run_appR (w : World) {t ty e : TypeId} {size bytes base n : Nat} {v : Value} {xs : List Value} (E : EI P t e size bytes) (hown : OwnR w base e size v n xs)
    (B : Nat) (A : Option Addr) (m c : Nat) (news : List Value) (hr : Sl w B A news) (hl : news.length = m * size) (h1 : ∀ u ∈ news, u.oneCell' = true)
    (h63 : n + m ≤ maxLen) (hbytes : (n + m) * bytes ≤ 140737488355328) (hbase : base ≤ w.heap.size) :
    ∃ v' w', (Builtin.append_ #[t, t] ty #[v, .slice A m c]).run P w = .ok v' w' ∧ OwnR w' base e size v' (n + m) (xs ++ news) ∧ w.grownBy w' v.ownBlock ∧ Below base w w' := by
  have E0 := E
  obtain ⟨i, z, ht, hi, hz, hsz, hby, hzs, hpos⟩ := E
  have hcells : ∀ ad, A = some ad → ∀ j u, news[j]? = some u → w.cell? (ad.add j) = some u := by
    intro ad had j u hj
    subst had
    have hjl : j < news.length := by
      apply Classical.byContradiction
      intro hge
      rw [List.getElem?_eq_none (by omega)] at hj
      cases hj
    obtain ⟨b, off, h0, _, hc⟩ := hr.open_ (k := j) hjl
    injection h0 with h0
    subst h0
    rw [List.getElem?_eq_getElem hjl] at hj
    injection hj with hj
    subst hj
    rw [addr_add]
    exact hc j hjl
  have hnil : A = none → news = [] := by
    intro hA
    apply Classical.byContradiction
    intro hne
    obtain ⟨b, off, h0, _⟩ := hr hne
    rw [hA] at h0
    cases h0
  have hm0 : news = [] → m = 0 := by
    intro h
    rw [h] at hl
    rcases Nat.eq_zero_or_pos m with h0 | h0
    · exact h0
    · have := Nat.mul_pos h0 hpos
      simp at hl
      omega
  by_cases hn : news = []
  · have hm := hm0 hn
    subst hn hm
    refine ⟨v, w, ?_, by simpa using hown, World.grownBy.refl _ _, Below.refl _ _⟩
    have hc0 : ∀ ad : Addr, (loadCells ad 0).run P w = .ok #[] w := fun ad => by simp [loadCells, loadCellsFrom]
    rcases hown with ⟨_, _, A0, rfl⟩ | ⟨_, ⟨rfl, _⟩ | ⟨g, cap, cur, rfl, _, _, hnc, _⟩⟩
    · cases A <;> cases A0 <;> simp [Builtin.append_, run_underlying ht, sizeOf, typeInfo, hi, Builtin.lenOf, Builtin.firstCells, storeCells, hc0]
    · cases A <;> simp [Builtin.append_, run_underlying ht, sizeOf, typeInfo, hi, Builtin.lenOf, Builtin.firstCells, hc0]
    · cases A <;> simp [Builtin.append_, run_underlying ht, sizeOf, typeInfo, hi, Builtin.lenOf, Builtin.firstCells, hnc, storeCells, hc0]
  · obtain ⟨ad, rfl⟩ : ∃ ad, A = some ad := by
      cases A with
      | none => exact absurd (hnil rfl) hn
      | some ad => exact ⟨ad, rfl⟩
    have hmp : 0 < m := by
      rcases Nat.eq_zero_or_pos m with h0 | h0
      · subst h0
        simp at hl
        exact absurd hl hn
      · exact h0
    rcases hown with ⟨rfl, rfl, A0, rfl⟩ | hown
    · have hb0 : m * bytes ≤ 140737488355328 := by simpa using hbytes
      have hm63 : m ≤ 9223372036854775807 := by simpa [maxLen] using h63
      obtain ⟨v', w', hrun, ho, hg, _⟩ := run_append_own (P := P) w base t ty e i z size bytes ht hi hz hsz hby hzs hpos (.slice none 0 0) 0 [] (World.ownsRow_nil w base e size) ad m c news hl (hcells ad rfl) h1 h63 hbytes hbase
      refine ⟨v', w', ?_, .inr ho, grown_any hg _, below_of_grown hg hbase (fun k hk => by cases hk)⟩
      cases A0 with
      | none => exact hrun
      | some s0 =>
        subst hsz hby
        have r1 := run_append_nil (P := P) w t ty e i z ht hi hz ad m c news hl (hcells ad rfl) hmp (by omega) (by omega)
        have r2 := run_append_grow (P := P) w t ty e i z ht hi hz s0 0 0 [] (by simp) (fun j u hj => by simp at hj) ad m c news hl (hcells ad rfl) (by omega) (by omega) (growslice_fits (by omega) hbytes)
        rw [hrun] at r1
        rw [r2]
        simp only [Nat.zero_add, Array.empty_append]
        exact r1.symm
    · obtain ⟨v', w', hrun, ho, hg, _⟩ := run_append_own (P := P) w base t ty e i z size bytes ht hi hz hsz hby hzs hpos v n xs hown ad m c news hl (hcells ad rfl) h1 h63 hbytes hbase
      exact ⟨v', w', hrun, .inr ho, hg, own_below hown hg hbase⟩

/-- append of a slice, whatever it is. -/
theorem wp_appR {K : Act → World → Prop} (w0 : World) (s x : Operand) (t : TypeId) (ho : o.op = .call { callee := .builtin .append, args := #[s, x], argTypes := #[t, t] })
    {e : TypeId} {size bytes : Nat} (E : EI P t e size bytes) (base : Nat) (v : Value) (n : Nat) (xs : List Value) (hs : a.eval s = v) (hown : OwnR w0 base e size v n xs)
    (B : Nat) (A : Option Addr) (m c : Nat) (news : List Value) (hx : a.eval x = .slice A m c) (hr : Sl w0 B A news) (hl : news.length = m * size) (h1 : ∀ u ∈ news, u.oneCell' = true)
    (h63 : n + m ≤ maxLen) (hbytes : (n + m) * bytes ≤ 140737488355328) (hbase : base ≤ w0.heap.size)
    (h : ∀ v' w', OwnR w' base e size v' (n + m) (xs ++ news) → w0.grownBy w' v.ownBlock → Below base w0 w' → K (a.put o.dst v') w') : o.wp P a w0 K Q := by
  obtain ⟨v', w', hrun, h2, h3, h4⟩ := run_appR (ty := o.type) w0 E hown B A m c news hr hl h1 h63 hbytes hbase
  unfold Oper.wp execOp
  simp only [ho, resolve, invoke, builtin, Sem.run_bind, Sem.run_pure, Result.andThen_ok, List.map_toArray, List.map_cons, List.map_nil, hs, hx, hrun]
  exact h v' w' h2 h3 h4
theorem app_slR (w0 : World) (hgd : o.guard = none) (s x : Operand) (t : TypeId) (ho : o.op = .call { callee := .builtin .append, args := #[s, x], argTypes := #[t, t] })
    {e : TypeId} {size bytes : Nat} (E : EI P t e size bytes) (base : Nat) (v : Value) (n : Nat) (xs : List Value) (hs : a.eval s = v) (hown : OwnR w0 base e size v n xs)
    (B : Nat) (A : Option Addr) (m c : Nat) (news : List Value) (hx : a.eval x = .slice A m c) (hr : Sl w0 B A news) (hl : news.length = m * size) (h1 : ∀ u ∈ news, u.oneCell' = true)
    (h63 : n + m ≤ maxLen) (hbytes : (n + m) * bytes ≤ 140737488355328) (hbase : base ≤ w0.heap.size)
    (h : ∀ v' w', OwnR w' base e size v' (n + m) (xs ++ news) → w0.grownBy w' v.ownBlock → Below base w0 w' → wpList P ops Q rest (a.put o.dst v') w') :
    wpList P ops Q (o :: rest) a w0 :=
  wpList_plain hgd fun _ hK => wp_appR w0 s x t ho E base v n xs hs hown B A m c news hx hr hl h1 h63 hbytes hbase fun v' w' h2 h3 h4 => hK _ _ (h v' w' h2 h3 h4)
theorem step_appR {K : Act → World → Prop} {F : Prop} (w0 : World) (hgd : o.guard = none) (s x : Operand) (t : TypeId) (ho : o.op = .call { callee := .builtin .append, args := #[s, x], argTypes := #[t, t] })
    {e : TypeId} {size bytes : Nat} (E : EI P t e size bytes) (base : Nat) (v : Value) (n : Nat) (xs : List Value) (hs : a.eval s = v) (hown : OwnR w0 base e size v n xs)
    (B : Nat) (A : Option Addr) (m c : Nat) (news : List Value) (hx : a.eval x = .slice A m c) (hr : Sl w0 B A news) (hl : news.length = m * size) (h1 : ∀ u ∈ news, u.oneCell' = true)
    (h63 : n + m ≤ maxLen) (hbytes : (n + m) * bytes ≤ 140737488355328) (hbase : base ≤ w0.heap.size)
    (h : ∀ v' w', OwnR w' base e size v' (n + m) (xs ++ news) → w0.grownBy w' v.ownBlock → Below base w0 w' → K (a.put o.dst v') w') :
    if Region.wanted o (yielded ops a.tmps) = true then Oper.wp P o a w0 K Q else F := by
  have hw : Region.wanted o (yielded ops a.tmps) = true := by simp [Region.wanted, hgd]
  rw [if_pos hw]
  exact wp_appR w0 s x t ho E base v n xs hs hown B A m c news hx hr hl h1 h63 hbytes hbase h

/-- append to a slice that is full: what was there stays as it was. -/
theorem run_app_full (w : World) {t ty e : TypeId} {size bytes n : Nat} {xs : List Value} {A0 : Option Addr} {B0 : Nat} (E : EI P t e size bytes) (h0 : Sl w B0 A0 xs) (hl0 : xs.length = n * size)
    (B : Nat) (A : Option Addr) (m c : Nat) (news : List Value) (hr : Sl w B A news) (hl : news.length = m * size) (h63 : n + m ≤ maxLen) (hbytes : (n + m) * bytes ≤ 140737488355328) (hB0 : B0 ≤ w.heap.size) (h1 : ∀ u ∈ news, u.oneCell' = true) :
    ∃ A' c' w', (Builtin.append_ #[t, t] ty #[.slice A0 n n, .slice A m c]).run P w = .ok (.slice A' (n + m) c') w' ∧ n + m ≤ c' ∧ Sl w' w'.heap.size A' (xs ++ news) ∧ Below w.heap.size w w' := by
  have E0 := E
  obtain ⟨i, z, ht, hi, hz, hsz, hby, hzs, hpos⟩ := E
  have hzero : ∀ {ys : List Value} {q : Nat}, ys.length = q * size → (ys = [] ↔ q = 0) := by
    intro ys q hq
    constructor
    · intro h
      rw [h] at hq
      rcases Nat.eq_zero_or_pos q with h0 | h0
      · exact h0
      · have := Nat.mul_pos h0 hpos
        simp at hq
        omega
    · intro h
      subst h
      simp at hq
      exact hq
  by_cases hn : n = 0
  · have hxs := (hzero hl0).2 hn
    subst hn hxs
    obtain ⟨v', w', hrun, ho, hg, hb⟩ := run_appR (ty := ty) w E0 (.inl ⟨rfl, rfl, A0, rfl⟩ : OwnR w w.heap.size e size (.slice A0 0 0) 0 []) B A m c news hr hl h1 h63 hbytes (Nat.le_refl _)
    rcases ho with ⟨h2, h3, A', rfl⟩ | ho
    · refine ⟨A', 0, w', ?_, by omega, by rw [h3]; exact Sl.nil, hb⟩
      rw [hrun, h2]
    · rcases ho.2 with ⟨rfl, h2⟩ | ⟨g, cap, cur, rfl, _, _, hnc, _⟩
      · refine ⟨none, 0, w', ?_, by omega, ?_, hb⟩
        · rw [hrun, h2]
        · have := (hzero ho.1).2 h2
          rw [this]
          exact Sl.nil
      · exact ⟨_, cap, w', hrun, hnc, Sl.of_own ho, hb⟩
  · have hxs : xs ≠ [] := fun h => hn ((hzero hl0).1 h)
    have hlt0 : 0 < xs.length := List.length_pos_iff.2 hxs
    obtain ⟨b0, off0, rfl, hb0, hc0⟩ := h0.open_ hlt0
    by_cases hm : m = 0
    · have hnews := (hzero hl).2 hm
      subst hm hnews
      refine ⟨_, n, w, ?_, by omega, by simpa using h0.mono hB0, Below.refl _ _⟩
      have hl0 : ∀ ad : Addr, (loadCells ad 0).run P w = .ok #[] w := fun ad => by simp [loadCells, loadCellsFrom]
      cases A <;> simp [Builtin.append_, run_underlying ht, sizeOf, typeInfo, hi, Builtin.lenOf, Builtin.firstCells, storeCells, hl0]
    · have hnews : news ≠ [] := fun h => hm ((hzero hl).1 h)
      obtain ⟨b1, off1, rfl, hb1, hc1⟩ := hr.open_ (List.length_pos_iff.2 hnews)
      have hm63 : n + m ≤ 9223372036854775807 := by simpa [maxLen] using h63
      have hcell : ∀ {b off : Nat} {ys : List Value}, (∀ i (h : i < ys.length), w.cell? ⟨b, off + i, none⟩ = some ys[i]) → ∀ j u, ys[j]? = some u → w.cell? ((⟨b, off, none⟩ : Addr).add j) = some u := by
        intro b off ys h j u hj
        obtain ⟨hlt, rfl⟩ := List.getElem?_eq_some_iff.1 hj
        rw [addr_add]
        exact h j hlt
      subst hsz hby
      have r2 := run_append_grow (P := P) w t ty e i z ht hi hz ⟨b0, off0, none⟩ n n xs hl0 (hcell hc0) ⟨b1, off1, none⟩ m c news hl (hcell hc1) (by omega) (by omega) (growslice_fits (by omega) hbytes)
      refine ⟨_, _, _, r2, grownCap_ge w (n + m) n e, fun hne => ⟨w.heap.size, 0, rfl, ?_, fun j hj => ?_⟩, ((Below.refl _ w).drew).alloc (by simp) _⟩
      · simp
      · rw [Nat.zero_add]
        have := (Bk.new w.drew e (xs.toArray ++ news.toArray ++ Builtin.zeroCells z.cells (grownCap w (n + m) n e - (n + m)))).cell j
        rw [show w.drew.heap.size = w.heap.size from rfl] at this
        rw [this]
        rw [Array.getElem?_append_left (by simpa using hj)]
        simp
theorem wp_app_full {K : Act → World → Prop} (w0 : World) (s x : Operand) (t : TypeId) (ho : o.op = .call { callee := .builtin .append, args := #[s, x], argTypes := #[t, t] })
    {e : TypeId} {size bytes : Nat} (E : EI P t e size bytes) (A0 : Option Addr) (n : Nat) (B0 : Nat) (xs : List Value) (hs : a.eval s = .slice A0 n n) (h0 : Sl w0 B0 A0 xs) (hl0 : xs.length = n * size) (hB0 : B0 ≤ w0.heap.size)
    (B : Nat) (A : Option Addr) (m c : Nat) (news : List Value) (hx : a.eval x = .slice A m c) (hr : Sl w0 B A news) (hl : news.length = m * size) (h1 : ∀ u ∈ news, u.oneCell' = true)
    (h63 : n + m ≤ maxLen) (hbytes : (n + m) * bytes ≤ 140737488355328)
    (h : ∀ A' c' w', n + m ≤ c' → Sl w' w'.heap.size A' (xs ++ news) → Below w0.heap.size w0 w' → K (a.put o.dst (.slice A' (n + m) c')) w') : o.wp P a w0 K Q := by
  obtain ⟨A', c', w', hrun, h2, h3, h4⟩ := run_app_full (ty := o.type) w0 E h0 hl0 B A m c news hr hl h63 hbytes hB0 h1
  unfold Oper.wp execOp
  simp only [ho, resolve, invoke, builtin, Sem.run_bind, Sem.run_pure, Result.andThen_ok, List.map_toArray, List.map_cons, List.map_nil, hs, hx, hrun]
  exact h A' c' w' h2 h3 h4

/-- make([]T, 0, n). -/
theorem make_own (w0 : World) (hgd : o.guard = none) (l c : Operand) (t : TypeId) (ho : o.op = Op.makeSlice t l c) {e : TypeId} {size bytes : Nat} (E : EI P t e size bytes) (base : Nat)
    (kl kc : IntKind) (n : Nat) (hl : a.eval l = .int kl 0) (hc : a.eval c = .int kc (n : Int)) (b2 : bytes * n ≤ 281474976710656) (b3 : n ≤ maxLen) (b4 : base ≤ w0.heap.size)
    (h : ∀ w', w'.ownsRow base e size (.slice (some ⟨w0.heap.size, 0, none⟩) 0 n) 0 [] → w0.grownBy w' none → Below w0.heap.size w0 w' → wpList P ops Q rest (a.put o.dst (.slice (some ⟨w0.heap.size, 0, none⟩) 0 n)) w') :
    wpList P ops Q (o :: rest) a w0 := by
  obtain ⟨i, z, ht, hi, hz, hsz, hby, hzs, hpos⟩ := E
  subst hby
  refine wpList_make_own w0 hgd l c t ho base e i z size ht hi hz hsz kl kc _ n hl hc rfl b2 b3 b4 ?_
  intro w' h1 h2
  exact h w' h1 h2 (below_of_grown h2 (Nat.le_refl _) (fun k hk => by cases hk))

/-- make([]T, n). -/
theorem make_full (w0 : World) (hgd : o.guard = none) (l c : Operand) (t : TypeId) (ho : o.op = Op.makeSlice t l c) {e : TypeId} {size bytes : Nat} (z : Value) (E : EI P t e size bytes) (hz0 : (P.info? e).bind (·.zero) = some z) (base : Nat)
    (kl kc : IntKind) (n : Nat) (hl : a.eval l = .int kl (n : Int)) (hc : a.eval c = .int kc (n : Int)) (b2 : bytes * n ≤ 281474976710656) (b3 : n ≤ maxLen) (b4 : base ≤ w0.heap.size)
    (h : ∀ w', w'.ownsRow base e size (.slice (some ⟨w0.heap.size, 0, none⟩) n n) n (madeCells z.cells (n * size)).toList → w0.grownBy w' none → Below w0.heap.size w0 w' → wpList P ops Q rest (a.put o.dst (.slice (some ⟨w0.heap.size, 0, none⟩) n n)) w') :
    wpList P ops Q (o :: rest) a w0 := by
  obtain ⟨i, z', ht, hi, hz, hsz, hby, hzs, hpos⟩ := E
  subst hby
  have : z' = z := by simpa [hi, hz] using hz0
  subst this
  refine wpList_make_full w0 hgd l c t ho base e i z' size ht hi hz hsz kl kc _ _ n hl hc rfl rfl b2 b3 b4 ?_
  intro w' h1 h2
  exact h w' h1 h2 (below_of_grown h2 (Nat.le_refl _) (fun k hk => by cases hk))
end
end Go.Proofs.YtcogfddcdpgpkaaGreatDoor
