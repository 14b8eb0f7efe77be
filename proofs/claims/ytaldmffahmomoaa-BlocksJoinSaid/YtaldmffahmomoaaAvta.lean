/- The evaluator, in one text: over any program; no conditions but those that each law names. -/
import Derived.Test.YtaldmffahmomoaaAvb
import Derived.Test.YtaldmffahmomoaaProg
import Derived.KernelRfl
import Derived.Test.YtaldmffahmomoaaFst
import Derived.Test.YtaldmffahmomoaaOwn
import Derived.Deep.QuietTactic
import Derived.BigQuiet
import Derived.Test.YtaldmffahmomoaaCh
import Derived.Test.YtaldmffahmomoaaAva
import Derived.Lib.SlBytesConst
set_option linter.unusedSimpArgs false
set_option linter.unusedVariables false
set_option linter.unusedSectionVars false
/- Chapter 19: which rows are written to. -/
namespace Go.Av
open Go.Proofs
def frzOf (d : Tmp) (op : Op) : List Tmp := match op with
  | .move (.tmp n) => if (n == 3 && d == 23) = true then [3] else []
  | _ => []
instance g9 : Gs where
  gl := fun _ => .bad
  rowAt := fun o => match o.op with | .convert s d _ => s == 9 && d == 22 && o.dst == some 7 | _ => false
  frzAt := fun l => match l with
    | o :: _ => (match o.dst with | some d => frzOf d o.op | none => [])
    | [] => []
theorem row9 (o : Oper) : Gs.rowAt o = (match o.op with | .convert s d _ => s == 9 && d == 22 && o.dst == some 7 | _ => false) := rfl
theorem frz9 (o : Oper) (l : List Oper) : Gs.frzAt (o :: l) = (match o.dst with | some d => frzOf d o.op | none => []) := rfl
theorem frzOf_def (d : Tmp) (op : Op) : frzOf d op = (match op with
  | .move (.tmp n) => if (n == 3 && d == 23) = true then [3] else []
  | _ => []) := rfl
theorem frz_nil (s : St) : s.frz [] = s := rfl
theorem frz_cons (s : St) (t : Tmp) (l : List Tmp) : s.frz (t :: l) = (s.freeze t).frz l := rfl
end Go.Av
/- Chapter 19: functions of the program that are walked by hand: what they hand back. -/
namespace Go.Av
open Go.Proofs Go.Proofs.Ytaldmffahmomoaa
/-- A list of bytes. -/
def byI : List D → Option (List Int)
  | [] => some []
  | .int .u8 n :: r => if 0 ≤ n ∧ n < 256 then (byI r).map (n :: ·) else none
  | _ => none
/-- A token's kind. -/
def tkKind : D → Int
  | .agg (.int _ k :: _) => k
  | _ => 0
/-- What closes a token of a kind; 0: it opens nothing. -/
def closeK (k : Int) : Int := if k = 21 ∨ k = 2 then 22 else if k = 19 then 20 else if k = 23 then 24 else 0
/-- The place behind a component value, by the kinds that are open; and whether it is closed. -/
def valueN (ks : Nat → Int) (e : Nat) : Nat → Nat → List Int → Nat × Bool
  | 0, a, _ => (a, false)
  | n + 1, a, op => if a < e then
      (let op' := if closeK (ks a) > 0 then op ++ [closeK (ks a)] else if op ≠ [] ∧ ks a = op.getLastD 0 then op.dropLast else op
       if op' = [] then (a + 1, true) else valueN ks e n (a + 1) op')
    else (a, false)
def isF (ts : List D) (a e k : Int) : Bool := decide (a < e) && decide (tkKind (ts.getD a.toNat .bad) = k)
/-- A token's shape. -/
def isTkD : D → Bool
  | .agg (.int .i64 _ :: r) => r.length == 5
  | _ => false
def ext9a : Call := fun f args pbs => match f, args, pbs with
  | 28, [.ptr 1000000 0 0, .int .i64 k], [⟨0, [.list ts, .int .i64 a, .int .i64 e]⟩] =>
    if 0 ≤ a ∧ (e ≤ ts.length ∨ e ≤ a) ∧ ts.all isTkD = true then some (.bool (isF ts a e k), [], [⟨0, [.list ts, .int .i64 a, .int .i64 e]⟩]) else none
  | 38, [.ptr 1000000 0 0], [⟨0, [.list ts, .int .i64 a, .int .i64 e]⟩] =>
    if 0 ≤ a ∧ (e ≤ ts.length ∨ e ≤ a) ∧ ts.length ≤ 1000000000 ∧ ts.all isTkD = true then
      (let r := valueN (fun i => tkKind (ts.getD i .bad)) e.toNat (e.toNat + 1 - a.toNat) a.toNat []
       some (.bool r.2, [], [⟨0, [.list ts, .int .i64 (r.1 : Nat), .int .i64 e]⟩])) else none
  | 41, [.list es, .int .i64 k], [] => (byI es).bind fun zs => if 0 ≤ k ∧ k < zs.length ∧ zs.length ≤ 1099511627776 then some (.tuple [.int .i64 (rFirst (zs.drop k.toNat)).1, .int .i64 ((rFirst (zs.drop k.toNat)).2 : Nat)], [], []) else none
  | _, _, _ => none
/-- With the examples of the document (speaks), which are true. -/
def ext9 : Call := fun f args pbs => match f, args, pbs with
  | 8, [], [] => some (.bool true, [], [])
  | f, args, pbs => ext9a f args pbs
end Go.Av
/- Chapter 19: walks of the reader's functions that the evaluator does not cover: ends, is. Conditions: the reader's cells are known. -/
set_option linter.unusedVariables false
namespace Go.Proofs.Ytaldmffahmomoaa
open Go.RowKit
/-- A cell that is there. -/
theorem ends_any (w : World) (g : Nat) (a e : Int) (c1 : w.cell? ⟨g, 1, none⟩ = some (.int .i64 a)) (c2 : w.cell? ⟨g, 2, none⟩ = some (.int .i64 e)) :
    Calls Try.prog 27 #[.pointer (some ⟨g, 0, none⟩)] w fun x w' => x = .returned (.bool (decide (e ≤ a))) ∧ ∃ m, w' = w.drewN m := by
  go_enter Try.func27, Try.ntmps27
  go_wp2
  go_quiet (fail)
  go_wp2
  go_ret
  exact ⟨rfl, _, rfl⟩
theorem is_any (w : World) (g : Nat) (b : Nat) (off n c : Nat) (A : Option Addr) (a e k x : Int) (c0 : w.cell? ⟨g, 0, none⟩ = some (.slice A n c)) (c1 : w.cell? ⟨g, 1, none⟩ = some (.int .i64 a)) (c2 : w.cell? ⟨g, 2, none⟩ = some (.int .i64 e))
    (ha : 0 ≤ a) (hn : a < e → a < n ∧ A = some ⟨b, off, none⟩ ∧ w.cell? ⟨b, off + a.toNat * 6, none⟩ = some (.int .i64 x)) :
    Calls Try.prog 28 #[.pointer (some ⟨g, 0, none⟩), .int .i64 k] w fun y w' => y = .returned (.bool (decide (a < e) && decide (x = k))) ∧ ∃ m, w' = w.drewN m := by
  by_cases h : a < e
  · obtain ⟨h1, rfl, h2⟩ := hn h
    have hd : decide (e ≤ a) = false := decide_eq_false (by omega)
    have hE : ∀ (w : World), w.cell? ⟨g, 1, none⟩ = some (.int .i64 a) → w.cell? ⟨g, 2, none⟩ = some (.int .i64 e) → Calls Try.prog 27 #[.pointer (some ⟨g, 0, none⟩)] w fun x w' => x = .returned (.bool false) ∧ ∃ m, w' = w.drewN m := fun w k1 k2 => by
      have := ends_any w g a e k1 k2
      rw [hd] at this
      exact this
    go_enter Try.func28, Try.ntmps28
    go_wp2
    go_quiet ((go_at_call 27; refine Calls.quiet_of (hE _ ?_ ?_); exact c1; exact c2))
    go_wp2
    go_ret
    refine ⟨?_, _, rfl⟩
    rw [decide_eq_true h, Bool.true_and]
    rfl
  · have hd : decide (e ≤ a) = true := decide_eq_true (by omega)
    have hE : ∀ (w : World), w.cell? ⟨g, 1, none⟩ = some (.int .i64 a) → w.cell? ⟨g, 2, none⟩ = some (.int .i64 e) → Calls Try.prog 27 #[.pointer (some ⟨g, 0, none⟩)] w fun x w' => x = .returned (.bool true) ∧ ∃ m, w' = w.drewN m := fun w k1 k2 => by
      have := ends_any w g a e k1 k2
      rw [hd] at this
      exact this
    go_enter Try.func28, Try.ntmps28
    go_wp2
    go_quiet ((go_at_call 27; refine Calls.quiet_of (hE _ ?_ ?_); exact c1; exact c2))
    go_wp2
    go_ret
    refine ⟨?_, _, rfl⟩
    rw [decide_eq_false (show ¬ a < e by omega)]
    rfl
end Go.Proofs.Ytaldmffahmomoaa
/- Chapter 19: the walk of the reader's value. Conditions: the reader's block is known; the tokens' kinds are. -/
set_option linter.unusedVariables false
namespace Go.Proofs.Ytaldmffahmomoaa
open Go.RowKit Go.Av
/-- The reader's block. -/
def RdC (w : World) (g : Nat) (L : Value) (a e : Int) (rest : List Value) (t : TypeId) (fr : Nat × Nat) : Prop :=
  w.heap[g]? = some (.cells (L :: .int .i64 a :: .int .i64 e :: rest).toArray t fr) ∧ (fr = (0, 0) ∨ rest.length + 3 ≤ fr.1)
section
variable {w w' : World} {g : Nat} {L : Value} {a e : Int} {rest : List Value} {t : TypeId} {fr : Nat × Nat}
theorem RdC.c0 (h : RdC w g L a e rest t fr) : w.cell? ⟨g, 0, none⟩ = some L := (cell_of_row w g 0 _ t fr h.1).trans rfl
theorem RdC.c1 (h : RdC w g L a e rest t fr) : w.cell? ⟨g, 1, none⟩ = some (.int .i64 a) := (cell_of_row w g 1 _ t fr h.1).trans rfl
theorem RdC.c2 (h : RdC w g L a e rest t fr) : w.cell? ⟨g, 2, none⟩ = some (.int .i64 e) := (cell_of_row w g 2 _ t fr h.1).trans rfl
theorem RdC.f1 (h : RdC w g L a e rest t fr) : w.frozen? ⟨g, 1, none⟩ = false := by
  unfold World.frozen?
  rw [show (⟨g, 1, none⟩ : Addr).block = g from rfl, h.1]
  obtain ⟨lo, hi⟩ := fr
  rcases h.2 with h2 | h2
  · injection h2 with h3 h4
    subst h3 h4
    rfl
  · have h3 : rest.length + 3 ≤ lo := h2
    simp
    omega
theorem RdC.put (h : RdC w g L a e rest t fr) (a' : Int) : RdC (w.setCell ⟨g, 1, none⟩ (.int .i64 a')) g L a' e rest t fr := by
  refine ⟨?_, h.2⟩
  have h1 := h.1
  simp [World.setCell, Array.getElem?_modify, h1]
theorem RdC.drewN (h : RdC w g L a e rest t fr) (n : Nat) : RdC (w.drewN n) g L a e rest t fr := h
theorem RdC.below (h : RdC w g L a e rest t fr) {B : Nat} (hb : Below B w w') (hg : g < B) : RdC w' g L a e rest t fr := ⟨(hb.block g hg).trans h.1, h.2⟩
theorem RdC.lt (h : RdC w g L a e rest t fr) : g < w.heap.size := by
  apply Classical.byContradiction
  intro hn
  have h1 := h.1
  rw [Array.getElem?_eq_none (by omega)] at h1
  cases h1
theorem OwnL.put {base : Nat} {e : TypeId} {k : IntKind} {v : Value} {l : List Int} (h : OwnL w base e k v l) {p : Addr} (hp : p.block < base) (u : Value) : OwnL (w.setCell p u) base e k v l := by
  refine h.imp id fun h => ⟨h.1, ?_⟩
  rcases h.2 with h1 | ⟨g', cap, cur, hv, hb0, hg, h1⟩
  · exact .inl h1
  · exact .inr ⟨g', cap, cur, hv, hb0, Bk.other hg (by omega) u, h1⟩
theorem OwnL.cut {base : Nat} {e : TypeId} {k : IntKind} {A : Option Addr} {n c : Nat} {l : List Int} {x : Int} (h : OwnL w base e k (.slice A n c) (l ++ [x])) : OwnL w base e k (.slice A l.length c) l := by
  rcases h with ⟨_, h, _⟩ | h
  · simp at h
  · right
    refine ⟨by simp, ?_⟩
    rcases h.2 with ⟨_, h1⟩ | ⟨g', cap, cur, hv, hb0, hg, h1, h2, h3, h4⟩
    · simp at h1
    · injection hv with v1 v2 v3
      subst v1 v3
      right
      refine ⟨g', c, cur, rfl, hb0, hg, by simp at h1; omega, h2, h3, ?_⟩
      have : cur.toList.take (l.length * 1) = (cur.toList.take ((l ++ [x]).length * 1)).take (l.length * 1) := by
        rw [List.take_take]
        congr 1
        simp
      rw [this, h4]
      simp
end
theorem closing_any (w : World) (k : Int) : Calls Try.prog 46 #[.int .i64 k] w fun x w' => x = .returned (.int .i64 (closeK k)) ∧ w' = w := by
  go_enter Try.func46, Try.ntmps46
  unfold closeK
  by_cases h1 : k = 21
  · subst h1
    go_wp2
    go_ret
    exact ⟨rfl, rfl⟩
  · have b1 : (k == 21) = false := beq_eq_false_iff_ne.2 h1
    by_cases h2 : k = 2
    · subst h2
      go_wp2
      go_ret
      exact ⟨rfl, rfl⟩
    · have b2 : (k == 2) = false := beq_eq_false_iff_ne.2 h2
      by_cases h3 : k = 19
      · subst h3
        go_wp2
        go_ret
        exact ⟨rfl, rfl⟩
      · have b3 : (k == 19) = false := beq_eq_false_iff_ne.2 h3
        by_cases h4 : k = 23
        · subst h4
          go_wp2
          go_ret
          exact ⟨rfl, rfl⟩
        · have b4 : (k == 23) = false := beq_eq_false_iff_ne.2 h4
          go_wp2
          go_ret
          simp [h1, h2, h3, h4]
end Go.Proofs.Ytaldmffahmomoaa
/- Chapter 19, plain: component values by a stack, and by recursion. No program in sight. -/
set_option linter.unusedVariables false
namespace Go.Av
open Go.Proofs
/-- Up to a token that stops, from value to value. -/
def untilN (ks : Nat → Int) (e : Nat) : Nat → (Int → Bool) → Nat → Nat
  | 0, _, a => a
  | n + 1, stop, a => if a < e ∧ stop (ks a) = false then
      (let nxt := if closeK (ks a) = 0 then a + 1 else (let p := untilN ks e n (fun k => k == closeK (ks a)) (a + 1); if p < e then p + 1 else e)
       untilN ks e n stop nxt)
    else a
def untilF (ks : Nat → Int) (e : Nat) (stop : Int → Bool) (a : Nat) : Nat := untilN ks e (e - a) stop a
/-- The place behind a component value, and that of what closes it. -/
def behindF (ks : Nat → Int) (e a : Nat) : Nat × Nat :=
  if closeK (ks a) = 0 then (a + 1, a + 1) else (let p := untilF ks e (fun k => k == closeK (ks a)) (a + 1); if p < e then (p + 1, p) else (e, e))
def valueF (ks : Nat → Int) (e a : Nat) (op : List Int) : Nat × Bool := valueN ks e (e + 1 - a) a op
theorem untilN_ge {ks : Nat → Int} {e : Nat} : ∀ (n : Nat) (stop : Int → Bool) (a : Nat), a ≤ untilN ks e n stop a ∧ (a ≤ e → untilN ks e n stop a ≤ e)
  | 0, _, a => ⟨Nat.le_refl _, id⟩
  | n + 1, stop, a => by
    unfold untilN
    split
    · rename_i h
      dsimp only
      split
      · have := untilN_ge (ks := ks) (e := e) n stop (a + 1)
        omega
      · have h1 := untilN_ge (ks := ks) (e := e) n (fun k => k == closeK (ks a)) (a + 1)
        split
        · rename_i h2
          have := untilN_ge (ks := ks) (e := e) n stop (untilN ks e n (fun k => k == closeK (ks a)) (a + 1) + 1)
          omega
        · have := untilN_ge (ks := ks) (e := e) n stop e
          omega
    · exact ⟨Nat.le_refl _, id⟩
theorem untilN_fuel {ks : Nat → Int} {e : Nat} : ∀ (n m : Nat) (stop : Int → Bool) (a : Nat), e - a ≤ n → e - a ≤ m → untilN ks e n stop a = untilN ks e m stop a
  | 0, 0, _, _, _, _ => rfl
  | 0, m + 1, stop, a, h, _ => by
    unfold untilN
    rw [if_neg (by omega)]
  | n + 1, 0, stop, a, _, h => by
    unfold untilN
    rw [if_neg (by omega)]
  | n + 1, m + 1, stop, a, h1, h2 => by
    unfold untilN
    by_cases h : a < e ∧ stop (ks a) = false
    · rw [if_pos h, if_pos h]
      dsimp only
      rw [untilN_fuel n m (fun k => k == closeK (ks a)) (a + 1) (by omega) (by omega)]
      have hg := untilN_ge (ks := ks) (e := e) m (fun k => k == closeK (ks a)) (a + 1)
      split
      · exact untilN_fuel n m stop _ (by omega) (by omega)
      · split
        · exact untilN_fuel n m stop _ (by omega) (by omega)
        · exact untilN_fuel n m stop _ (by omega) (by omega)
    · rw [if_neg h, if_neg h]
theorem untilF_ge {ks : Nat → Int} {e : Nat} (stop : Int → Bool) (a : Nat) : a ≤ untilF ks e stop a ∧ (a ≤ e → untilF ks e stop a ≤ e) := untilN_ge _ _ _
theorem behindF_pos {ks : Nat → Int} {e a : Nat} (h : a < e) : a < (behindF ks e a).1 ∧ (behindF ks e a).1 ≤ e ∧ a < (behindF ks e a).2 ∧ (behindF ks e a).2 ≤ e := by
  unfold behindF
  split
  · exact ⟨by show a < a + 1; omega, by show a + 1 ≤ e; omega, by show a < a + 1; omega, by show a + 1 ≤ e; omega⟩
  · have hg := untilF_ge (ks := ks) (e := e) (fun k => k == closeK (ks a)) (a + 1)
    dsimp only
    split
    · dsimp only; omega
    · dsimp only; omega
theorem untilF_stop {ks : Nat → Int} {e : Nat} {stop : Int → Bool} {a : Nat} (h : e ≤ a ∨ stop (ks a) = true) : untilF ks e stop a = a := by
  unfold untilF
  cases hn : e - a with
  | zero => rfl
  | succ n =>
    unfold untilN
    rw [if_neg]
    rintro ⟨h1, h2⟩
    rcases h with h | h
    · omega
    · rw [h] at h2; cases h2
theorem untilF_step {ks : Nat → Int} {e : Nat} {stop : Int → Bool} {a : Nat} (h : a < e) (hs : stop (ks a) = false) : untilF ks e stop a = untilF ks e stop (behindF ks e a).1 := by
  have hb := behindF_pos (ks := ks) h
  have e1 : untilF ks e stop a = untilN ks e ((e - a - 1) + 1) stop a := by unfold untilF; congr 1; omega
  rw [e1]
  unfold untilN
  rw [if_pos ⟨h, hs⟩]
  have e2 : untilN ks e (e - a - 1) (fun k => k == closeK (ks a)) (a + 1) = untilF ks e (fun k => k == closeK (ks a)) (a + 1) := by
    unfold untilF
    exact untilN_fuel _ _ _ _ (by omega) (by omega)
  rw [e2]
  have e3 : (if closeK (ks a) = 0 then a + 1 else (let p := untilF ks e (fun k => k == closeK (ks a)) (a + 1); if p < e then p + 1 else e)) = (behindF ks e a).1 := by
    unfold behindF
    split
    · rfl
    · dsimp only
      split <;> rfl
  rw [e3]
  show untilN ks e (e - a - 1) stop _ = _
  unfold untilF
  exact untilN_fuel _ _ _ _ (by omega) (by omega)
theorem untilF_at {ks : Nat → Int} {e : Nat} {stop : Int → Bool} : ∀ (k a : Nat), e - a ≤ k → a ≤ e → untilF ks e stop a < e → stop (ks (untilF ks e stop a)) = true
  | k, a, hk, ha, h => by
    by_cases hs : e ≤ a ∨ stop (ks a) = true
    · rw [untilF_stop hs] at h ⊢
      rcases hs with hs | hs
      · omega
      · exact hs
    · have h1 : a < e := by omega
      have h2 : stop (ks a) = false := by
        cases hb : stop (ks a) with
        | true => exact absurd (.inr hb) hs
        | false => rfl
      have hp := behindF_pos (ks := ks) h1
      rw [untilF_step h1 h2] at h ⊢
      cases k with
      | zero => omega
      | succ k => exact untilF_at k _ (by omega) (by omega) h
theorem valueN_fuel {ks : Nat → Int} {e : Nat} : ∀ (n m a : Nat) (op : List Int), e - a ≤ n → e - a ≤ m → valueN ks e n a op = valueN ks e m a op
  | 0, 0, _, _, _, _ => rfl
  | 0, m + 1, a, op, h, _ => by
    unfold valueN
    rw [if_neg (by omega)]
  | n + 1, 0, a, op, _, h => by
    unfold valueN
    rw [if_neg (by omega)]
  | n + 1, m + 1, a, op, h1, h2 => by
    unfold valueN
    by_cases h : a < e
    · rw [if_pos h, if_pos h]
      dsimp only
      rw [valueN_fuel n m (a + 1) _ (by omega) (by omega)]
    · rw [if_neg h, if_neg h]
def opsF (k : Int) (op : List Int) : List Int := if closeK k > 0 then op ++ [closeK k] else if op ≠ [] ∧ k = op.getLastD 0 then op.dropLast else op
theorem valueF_end {ks : Nat → Int} {e a : Nat} {op : List Int} (h : e ≤ a) : valueF ks e a op = (a, false) := by
  unfold valueF
  cases e + 1 - a with
  | zero => rfl
  | succ n => unfold valueN; rw [if_neg (by omega)]
theorem valueF_step {ks : Nat → Int} {e a : Nat} {op : List Int} (h : a < e) : valueF ks e a op = if opsF (ks a) op = [] then (a + 1, true) else valueF ks e (a + 1) (opsF (ks a) op) := by
  unfold valueF
  rw [show e + 1 - a = (e - a) + 1 by omega]
  rw [valueN, if_pos h]
  show (if opsF (ks a) op = [] then (a + 1, true) else valueN ks e (e - a) (a + 1) (opsF (ks a) op)) = _
  rw [valueN_fuel (e - a) (e + 1 - (a + 1)) (a + 1) _ (by omega) (by omega)]
theorem closeK_val (k : Int) : closeK k = 0 ∨ (closeK k = 22 ∨ closeK k = 20 ∨ closeK k = 24) ∧ closeK (closeK k) = 0 ∧ 0 < closeK k := by
  unfold closeK
  by_cases h1 : k = 21 ∨ k = 2
  · rw [if_pos h1]; exact .inr ⟨.inl rfl, by decide, by decide⟩
  · rw [if_neg h1]
    by_cases h2 : k = 19
    · rw [if_pos h2]; exact .inr ⟨.inr (.inl rfl), by decide, by decide⟩
    · rw [if_neg h2]
      by_cases h3 : k = 23
      · rw [if_pos h3]; exact .inr ⟨.inr (.inr rfl), by decide, by decide⟩
      · rw [if_neg h3]; exact .inl rfl
theorem lastD_snoc (op : List Int) (c : Int) : (op ++ [c]).getLastD 0 = c := by rw [List.getLastD_eq_getLast?]; simp
theorem value_stack {ks : Nat → Int} {e : Nat} : ∀ (n a : Nat) (c : Int) (op : List Int), e - a ≤ n → a ≤ e → closeK c = 0 →
    valueF ks e a (op ++ [c]) = if untilF ks e (fun k => k == c) a < e then (if op = [] then (untilF ks e (fun k => k == c) a + 1, true) else valueF ks e (untilF ks e (fun k => k == c) a + 1) op) else (e, false) := by
  intro n
  induction n with
  | zero =>
    intro a c op h1 h2 hc
    have : a = e := by omega
    subst this
    rw [valueF_end (Nat.le_refl _), untilF_stop (.inl (Nat.le_refl _)), if_neg (by omega)]
  | succ n ih =>
    intro a c op h1 h2 hc
    by_cases hae : a < e
    · rw [valueF_step hae]
      by_cases hk : ks a = c
      · have e1 : opsF (ks a) (op ++ [c]) = op := by
          unfold opsF
          rw [hk, hc, if_neg (by omega), if_pos ⟨by simp, (lastD_snoc op c).symm⟩]
          simp
        rw [e1, untilF_stop (.inr (by simp [hk])), if_pos hae]
      · have hs : (fun k => k == c) (ks a) = false := by simpa using hk
        rw [untilF_step hae hs]
        rcases closeK_val (ks a) with h0 | ⟨_, h0, hp⟩
        · have e1 : opsF (ks a) (op ++ [c]) = op ++ [c] := by
            unfold opsF
            rw [h0, if_neg (by omega), if_neg (by rw [lastD_snoc]; simp [hk])]
          have e2 : (behindF ks e a).1 = a + 1 := by unfold behindF; rw [if_pos h0]
          rw [e1, e2, if_neg (by simp), ih (a + 1) c op (by omega) (by omega) hc]
        · have e1 : opsF (ks a) (op ++ [c]) = (op ++ [c]) ++ [closeK (ks a)] := by
            unfold opsF
            rw [if_pos hp]
          rw [e1, if_neg (show ¬ op ++ [c] ++ [closeK (ks a)] = [] by simp), ih (a + 1) (closeK (ks a)) (op ++ [c]) (by omega) (by omega) h0, if_neg (show ¬ op ++ [c] = [] by simp)]
          have hg := untilF_ge (ks := ks) (e := e) (fun k => k == closeK (ks a)) (a + 1)
          have e2 : (behindF ks e a).1 = if untilF ks e (fun k => k == closeK (ks a)) (a + 1) < e then untilF ks e (fun k => k == closeK (ks a)) (a + 1) + 1 else e := by
            unfold behindF
            rw [if_neg (by omega)]
            dsimp only
            split <;> rfl
          rw [e2]
          by_cases hp : untilF ks e (fun k => k == closeK (ks a)) (a + 1) < e
          · rw [if_pos hp, if_pos hp]
            exact ih _ c op (by omega) (by omega) hc
          · rw [if_neg hp, if_neg hp, untilF_stop (.inl (Nat.le_refl _)), if_neg (by omega)]
    · have : a = e := by omega
      subst this
      rw [valueF_end (Nat.le_refl _), untilF_stop (.inl (Nat.le_refl _)), if_neg (by omega)]
/-- Is a component value closed? -/
def closedF (ks : Nat → Int) (e a : Nat) : Bool := closeK (ks a) == 0 || decide (untilF ks e (fun k => k == closeK (ks a)) (a + 1) < e)
/-- The stack's value is the recursion's. -/
theorem value_behind {ks : Nat → Int} {e a : Nat} (h : a < e) : valueF ks e a [] = ((behindF ks e a).1, closedF ks e a) := by
  rw [valueF_step h]
  unfold behindF closedF
  rcases closeK_val (ks a) with h0 | ⟨_, h0, hp⟩
  · have e1 : opsF (ks a) [] = [] := by unfold opsF; rw [h0]; simp
    rw [e1, if_pos rfl, if_pos h0, h0]
    rfl
  · have e1 : opsF (ks a) [] = [] ++ [closeK (ks a)] := by unfold opsF; rw [if_pos hp]
    rw [e1, if_neg (by simp), value_stack (e - (a + 1)) (a + 1) _ [] (Nat.le_refl _) (by omega) h0, if_neg (show ¬ closeK (ks a) = 0 by omega), if_pos rfl]
    have hb : (closeK (ks a) == 0) = false := by simp; omega
    rw [hb]
    dsimp only
    split
    · rename_i hh
      simp [hh]
    · rename_i hh
      simp [hh]
end Go.Av
/- Chapter 19: the walk of the reader's value. -/
set_option linter.unusedVariables false
namespace Go.Proofs.Ytaldmffahmomoaa
open Go.RowKit Go.Av
def atOf (w : World) (g : Nat) : Nat := match w.cell? ⟨g, 1, none⟩ with | some (.int _ n) => n.toNat | _ => 0
theorem atOf_rd {w : World} {g : Nat} {L : Value} {a : Nat} {e : Int} {rest : List Value} {t : TypeId} {fr : Nat × Nat} (h : RdC w g L (a : Nat) e rest t fr) : atOf w g = a := by
  unfold atOf
  rw [h.c1]
  simp
structure VRel (w : World) (g : Nat) (L : Value) (ks : Nat → Int) (a e : Nat) (rest : List Value) (t : TypeId) (fr : Nat × Nat) (i : Nat) (op : List Int) (v : Value) (wr : World) : Prop where
  rd : RdC wr g L (i : Nat) (e : Nat) rest t fr
  own : OwnL wr w.heap.size 3 .i64 v op
  le : i ≤ e
  len : op.length ≤ i
  val : valueF ks e i op = valueF ks e a []
  grown : w.grownBy wr (some g)
theorem grown_drewN {w w' : World} {r : Option Nat} (h : w.grownBy w' r) (n : Nat) : w.grownBy (w'.drewN n) r := ⟨h.os, h.tape, h.output, h.size, h.block⟩
theorem grown_cell {w w' : World} {g b o : Nat} (h : w.grownBy w' (some g)) (hb : b < w.heap.size) (hg : b ≠ g) : w'.cell? ⟨b, o, none⟩ = w.cell? ⟨b, o, none⟩ := by
  unfold World.cell?
  rw [h.block b hb (fun e => hg (Option.some.inj e))]
theorem value_no (w : World) (g : Nat) (a e : Int) (c1 : w.cell? ⟨g, 1, none⟩ = some (.int .i64 a)) (c2 : w.cell? ⟨g, 2, none⟩ = some (.int .i64 e)) (h : e ≤ a) :
    Calls Try.prog 38 #[.pointer (some ⟨g, 0, none⟩)] w fun x w' => x = .returned (.bool false) ∧ ∃ m, w' = w.drewN m := by
  have hE := ends_any w g a e c1 c2
  rw [decide_eq_true h] at hE
  go_enter Try.func38, Try.ntmps38
  go_wp2
  go_loopw [3, 4] (fun v _ wr => wr = w) (fun _ _ _ => 0)
  case atStart => rfl
  case round =>
    subst hrel
    go_wp2_with (go_at_call 27; refine hE.mono ?_; rintro e w' ⟨rfl, m, rfl⟩)
    go_wp2
    go_ret
    exact ⟨rfl, _, rfl⟩
theorem grown_below {w w1 w2 : World} {r : Option Nat} (h : w.grownBy w1 r) (hb : Below w.heap.size w1 w2) : w.grownBy w2 r :=
  ⟨hb.os.trans h.os, hb.tape.trans h.tape, hb.output.trans h.output, Nat.le_trans h.size hb.size, fun k hk hne => (hb.block k hk).trans (h.block k hk hne)⟩
theorem OwnL.last {w : World} {base : Nat} {e : TypeId} {k : IntKind} {A : Option Addr} {n c : Nat} {l : List Int} {x : Int} (h : OwnL w base e k (.slice A n c) (l ++ [x])) :
    ∃ b2, A = some ⟨b2, 0, none⟩ ∧ base ≤ b2 ∧ b2 < w.heap.size ∧ w.cell? ⟨b2, l.length, none⟩ = some (.int k x) := by
  obtain ⟨A', c', hv, hc, hs⟩ := h.form
  obtain ⟨b3, off3, h1, h2, h3⟩ := hs.open_ (k := l.length) (by simp)
  rcases h with ⟨_, h, _⟩ | h
  · simp at h
  · rcases h.2 with ⟨_, h1⟩ | ⟨g', cap, cur, hv2, hb0, hg, h4⟩
    · simp at h1
    · injection hv with v1 v2 v3
      injection hv2 with u1 u2 u3
      subst v1 v3 u1
      injection h1 with h1
      injection h1 with h5 h6 h7
      subst h5 h6
      refine ⟨g', rfl, hb0, h2, ?_⟩
      have := h3 l.length (by simp)
      simpa using this
theorem OwnL.form1 {w : World} {base : Nat} {e : TypeId} {k : IntKind} {v : Value} {l : List Int} {x : Int} {lo : Nat} (h : OwnL w base e k v (l ++ [x])) (hl : l.length = lo) : ∃ a c, v = .slice a (lo + 1) c ∧ lo + 1 ≤ c := by
  obtain ⟨a, c, h1, h2, _⟩ := h.form
  simp only [List.length_append, List.length_cons, List.length_nil, Nat.zero_add, hl] at h1 h2
  exact ⟨a, c, h1, h2⟩
set_option maxHeartbeats 4000000 in
theorem value_any (w : World) (g b off n c : Nat) (ks : Nat → Int) (a e : Nat) (rest : List Value) (t : TypeId) (fr : Nat × Nat) (hR : RdC w g (.slice (some ⟨b, off, none⟩) n c) (a : Nat) (e : Nat) rest t fr)
    (hbg : b ≠ g) (hb : b < w.heap.size) (hen : e ≤ n) (hn : n ≤ 1000000000) (hae : a < e) (hcell : ∀ i, i < n → w.cell? ⟨b, off + i * 6, none⟩ = some (.int .i64 (ks i))) :
    Calls Try.prog 38 #[.pointer (some ⟨g, 0, none⟩)] w fun x w' => x = .returned (.bool (valueF ks e a []).2) ∧ w.grownBy w' (some g) ∧ RdC w' g (.slice (some ⟨b, off, none⟩) n c) ((valueF ks e a []).1 : Nat) (e : Nat) rest t fr := by
  have hgl := hR.lt
  have HC := Lib.hid hcell
  clear hcell
  have HR := Lib.hid hR
  clear hR
  go_enter Try.func38, Try.ntmps38
  go_wp2
  go_loopw [3, 4] (fun v _ wr => ∃ (i : Nat) (op : List Int), VRel w g (.slice (some ⟨b, off, none⟩) n c) ks a e rest t fr i op v wr ∧ (e ≤ i → op ≠ [])) (fun _ _ wr => e - atOf wr g)
  case atStart =>
    exact ⟨a, [], ⟨HR.out, OwnL.nil _ _ _ _ _, Nat.le_of_lt hae, Nat.zero_le _, rfl, World.grownBy.refl _ _⟩, fun h => by omega⟩
  case round =>
    obtain ⟨i, op, hv, hne⟩ := hrel
    have c0 := hv.rd.c0
    have c1 := hv.rd.c1
    have c2 := hv.rd.c2
    have f1 := hv.rd.f1
    have hE := ends_any wr g i e c1 c2
    have HV := Lib.hid hv
    have hopl := hv.len
    have hie := hv.le
    clear hv
    by_cases hlt : i < e
    · have hd : decide ((e : Int) ≤ (i : Int)) = false := decide_eq_false (by omega)
      rw [hd] at hE
      have hk := (grown_cell (o := off + i * 6) HV.out.grown hb hbg).trans (HC.out i (by omega))
      have hin : (i : Int) < n := by omega
      obtain ⟨k, HK⟩ : ∃ z, Hid (ks i = z) := ⟨_, rfl⟩
      rw [HK.out] at hk
      have hw : IntKind.i64.wrap ((i : Int) + 1) = (i : Int) + 1 := by rw [IntKind.wrap_i64]; omega
      have hwb : w.heap.size ≤ wr.heap.size := HV.out.grown.size
      obtain ⟨A, cp, hvv, hcp, hsl⟩ := HV.out.own.form
      subst hvv
      obtain ⟨lo, HLO⟩ : ∃ z, Hid (op.length = z) := ⟨_, rfl⟩
      have ho := HV.out.own
      rw [HLO.out] at ho hcp
      have HSL := Lib.hid hsl
      clear hsl
      have HO := Lib.hid ho
      have HL40 : Hid (op.length ≤ 1099511627776) := by show _ ≤ _; omega
      rw [HLO.out] at hopl ⊢
      clear ho
      rcases closeK_val k with hk0 | ⟨_, _, hkp⟩
      · have hCl : ∀ w : World, Calls Try.prog 46 #[.int .i64 k] w fun x w' => x = .returned (.int .i64 0) ∧ w' = w := fun w => by
          have := closing_any w k
          rw [hk0] at this
          exact this
        have HK0 := Lib.hid hk0
        clear hk0
        rcases List.eq_nil_or_concat op with rfl | ⟨op', x, hop⟩
        · have hz : lo = 0 := HLO.out.symm
          subst hz
          go_wp2_with (first
            | (go_at_call 27; refine hE.mono ?_; rintro e w' ⟨rfl, m, rfl⟩)
            | (go_at_call 46; refine (hCl _).mono ?_; rintro e w' ⟨rfl, rfl⟩))
          go_quiet (fail)
          go_wp2_with (go_at_call 46; refine (hCl _).mono ?_; rintro e w' ⟨rfl, rfl⟩)
          have HT := HV.out
          have hval : valueF ks e a [] = (i + 1, true) := by
            rw [← HT.val, valueF_step hlt, HK.out]
            have e1 : opsF k [] = [] := by
              unfold opsF
              rw [HK0.out]
              rfl
            rw [e1, if_pos rfl]
          go_ret
          rw [hval]
          refine ⟨rfl, grown_put (grown_drewN HT.grown (m + nq)) rfl _, ?_⟩
          have h1 := (HT.rd.drewN (m + nq)).put ((i : Int) + 1)
          rw [show ((i + 1 : Nat) : Int) = (i : Int) + 1 by omega]
          exact h1
        · rw [List.concat_eq_append] at hop
          subst hop
          obtain ⟨lo', HL'⟩ : ∃ z, Hid (op'.length = z) := ⟨_, rfl⟩
          have hlo : lo = lo' + 1 := by rw [← HLO.out, ← HL'.out]; simp
          obtain ⟨b2, hA, hb2, hb2l, hlast⟩ := OwnL.last HO.out
          subst hA
          rw [HL'.out] at hlast
          have hne2 : b2 ≠ g := by omega
          have hne3 : g ≠ b2 := fun h => hne2 h.symm
          have hwl : IntKind.i64.wrap ((lo : Int) - 1) = (lo' : Int) := by rw [IntKind.wrap_i64]; omega
          have hlp : (lo : Int) > 0 := by omega
          have hlz : ((lo : Int) == 0) = false := beq_eq_false_iff_ne.2 (by omega)
          have hl1 : (lo' : Int) < (lo : Int) := by omega
          have hl2 : lo' ≤ cp := by omega
          have HLO2 := Lib.hid hlo
          clear hlo
          by_cases hkx : k = x
          · subst hkx
            have bkx : (k == k) = true := by simp
            have hval1 : valueF ks e i (op' ++ [k]) = if op' = [] then (i + 1, true) else valueF ks e (i + 1) op' := by
              rw [valueF_step hlt, HK.out]
              have e1 : opsF k (op' ++ [k]) = op' := by
                unfold opsF
                rw [HK0.out, if_neg (by omega), if_pos ⟨by simp, (lastD_snoc op' k).symm⟩]
                simp
              rw [e1]
            have HV1 := Lib.hid hval1
            have HCUT := Lib.hid (OwnL.cut HO.out)
            clear hval1
            by_cases hz : lo' = 0
            · subst hz
              have hop0 : op' = [] := List.length_eq_zero_iff.1 HL'.out
              go_wp2_with (first
                | (go_at_call 27; refine hE.mono ?_; rintro e w' ⟨rfl, m, rfl⟩)
                | (go_at_call 46; refine (hCl _).mono ?_; rintro e w' ⟨rfl, rfl⟩))
              go_quiet (fail)
              go_wp2_with (go_at_call 46; refine (hCl _).mono ?_; rintro e w' ⟨rfl, rfl⟩)
              have HT := HV.out
              have r3 : RdC ((wr.drewN (m + nq)).setCell ⟨g, 1, none⟩ (.int .i64 ((i : Int) + 1))) g (.slice (some ⟨b, off, none⟩) n c) ((i + 1 : Nat) : Int) (e : Nat) rest t fr := by
                have h1 := (HT.rd.drewN (m + nq)).put ((i : Int) + 1)
                rw [show ((i + 1 : Nat) : Int) = (i : Int) + 1 by omega]
                exact h1
              go_ret
              have hval : valueF ks e a [] = (i + 1, true) := by
                rw [← HT.val, HV1.out, if_pos hop0]
              rw [hval]
              exact ⟨rfl, grown_put (grown_drewN HT.grown (m + nq)) rfl _, r3⟩
            · have hlz' : ((lo' : Int) == 0) = false := beq_eq_false_iff_ne.2 (by omega)
              have hop1 : op' ≠ [] := fun h => hz (by rw [← HL'.out, h]; rfl)
              have HOP := Lib.hid hop1
              clear hop1
              go_wp2_with (first
                | (go_at_call 27; refine hE.mono ?_; rintro e w' ⟨rfl, m, rfl⟩)
                | (go_at_call 46; refine (hCl _).mono ?_; rintro e w' ⟨rfl, rfl⟩))
              go_quiet (fail)
              go_wp2_with (go_at_call 46; refine (hCl _).mono ?_; rintro e w' ⟨rfl, rfl⟩)
              have HT := HV.out
              have r3 : RdC ((wr.drewN (m + nq)).setCell ⟨g, 1, none⟩ (.int .i64 ((i : Int) + 1))) g (.slice (some ⟨b, off, none⟩) n c) ((i + 1 : Nat) : Int) (e : Nat) rest t fr := by
                have h1 := (HT.rd.drewN (m + nq)).put ((i : Int) + 1)
                rw [show ((i + 1 : Nat) : Int) = (i : Int) + 1 by omega]
                exact h1
              refine ⟨⟨i + 1, op', ⟨r3, ?_, by omega, ?_, ?_, ?_⟩, fun _ => HOP.out⟩, ?_⟩
              · have h1 := OwnL.put HCUT.out hgl (p := ⟨g, 1, none⟩) (.int .i64 ((i : Int) + 1))
                rw [HL'.out] at h1
                exact h1
              · rw [HL'.out]; have := HLO2.out; omega
              · rw [← HT.val, HV1.out, if_neg HOP.out]
              · exact grown_put (grown_drewN HT.grown (m + nq)) rfl _
              · rw [atOf_rd r3, atOf_rd HT.rd]
                omega
          · have bkx : (k == x) = false := beq_eq_false_iff_ne.2 hkx
            go_wp2_with (first
              | (go_at_call 27; refine hE.mono ?_; rintro e w' ⟨rfl, m, rfl⟩)
              | (go_at_call 46; refine (hCl _).mono ?_; rintro e w' ⟨rfl, rfl⟩))
            go_quiet (fail)
            go_wp2_with (go_at_call 46; refine (hCl _).mono ?_; rintro e w' ⟨rfl, rfl⟩)
            have HT := HV.out
            have r3 : RdC ((wr.drewN (m + nq)).setCell ⟨g, 1, none⟩ (.int .i64 ((i : Int) + 1))) g (.slice (some ⟨b, off, none⟩) n c) ((i + 1 : Nat) : Int) (e : Nat) rest t fr := by
              have h1 := (HT.rd.drewN (m + nq)).put ((i : Int) + 1)
              rw [show ((i + 1 : Nat) : Int) = (i : Int) + 1 by omega]
              exact h1
            refine ⟨⟨i + 1, op' ++ [x], ⟨r3, OwnL.put HO.out hgl _, by omega, ?_, ?_, ?_⟩, fun _ => by simp⟩, ?_⟩
            · rw [List.length_append, HL'.out]; simp; have := HLO2.out; omega
            · rw [← HT.val, valueF_step hlt, HK.out]
              have e1 : opsF k (op' ++ [x]) = op' ++ [x] := by
                unfold opsF
                rw [HK0.out, if_neg (by omega), if_neg (by rw [lastD_snoc]; simp [hkx])]
              rw [e1, if_neg (by simp)]
            · exact grown_put (grown_drewN HT.grown (m + nq)) rfl _
            · rw [atOf_rd r3, atOf_rd HT.rd]
              omega
      · obtain ⟨ck, HCK⟩ : ∃ z, Hid (closeK k = z) := ⟨_, rfl⟩
        rw [HCK.out] at hkp
        have hkp' : ck > 0 := hkp
        have hCl : ∀ w : World, Calls Try.prog 46 #[.int .i64 k] w fun x w' => x = .returned (.int .i64 ck) ∧ w' = w := fun w => by
          have := closing_any w k
          rw [HCK.out] at this
          exact this
        go_wp2_with (first
          | (go_at_call 27; refine hE.mono ?_; rintro e w' ⟨rfl, m, rfl⟩)
          | (go_at_call 46; refine (hCl _).mono ?_; rintro e w' ⟨rfl, rfl⟩))
        go_quiet (fail)
        go_wp2_with (first
          | (go_at_call 46; refine (hCl _).mono ?_; rintro e w' ⟨rfl, rfl⟩)
          | (at_builtin; refine appL_one _ rfl (.tmp 30) (.tmp 33) 44 rfl Try.eiInts (by decide) w.heap.size .i64 _ op ck rfl (OwnL.put HO.out hgl _) (by show Value.slice (some ⟨wr.heap.size, 0, none⟩) 1 1 = _; simp) HL40.out (by simpa using hwb) ?_; intro v3 w3 ho3 hg3 hb3; obtain ⟨A3, c3, hv3, hc3⟩ := OwnL.form1 ho3 HLO.out; have HO3 := Lib.hid ho3; have HG3 := Lib.hid hg3; have HB3 := Lib.hid hb3; clear ho3 hg3 hb3; subst hv3))
        have HT := HV.out
        have r3 : RdC w3 g (.slice (some ⟨b, off, none⟩) n c) ((i + 1 : Nat) : Int) (e : Nat) rest t fr := by
          have h1 := ((HT.rd.drewN (m + nq)).put ((i : Int) + 1)).below HB3.out hgl
          rw [show ((i + 1 : Nat) : Int) = (i : Int) + 1 by omega]
          exact h1
        refine ⟨⟨i + 1, op ++ [ck], ⟨r3, ?_, by omega, ?_, ?_, ?_⟩, fun _ => by simp⟩, ?_⟩
        · exact HO3.out
        · rw [List.length_append, HLO.out]; simp; omega
        · rw [← HT.val, valueF_step hlt, HK.out]
          have e1 : opsF k op = op ++ [ck] := by
            unfold opsF
            rw [HCK.out, if_pos hkp']
          rw [e1, if_neg (by simp)]
        · exact grown_below (grown_put (grown_drewN HT.grown (m + nq)) rfl _) HB3.out
        · rw [atOf_rd r3, atOf_rd HT.rd]
          omega
    · have hie2 : i = e := by omega
      have hopne := hne (by omega)
      have hd : decide ((e : Int) ≤ (i : Int)) = true := decide_eq_true (by omega)
      rw [hd] at hE
      go_wp2_with (go_at_call 27; refine hE.mono ?_; rintro e w' ⟨rfl, m, rfl⟩)
      have HT := HV.out
      have hval : valueF ks e a [] = (i, false) := by
        rw [← HT.val, valueF_end (by omega)]
      go_ret
      rw [hval]
      exact ⟨rfl, grown_drewN HT.grown m, HT.rd.drewN m⟩
end Go.Proofs.Ytaldmffahmomoaa
/- Chapter 19: what is known of the reader's functions, and of First, holds in the model. -/
set_option linter.unusedSimpArgs false
set_option linter.unusedSectionVars false
set_option linter.unusedVariables false
namespace Go.Av
open Go.Proofs Go.RowKit Go.Proofs.Ytaldmffahmomoaa
theorem tk_len {d : D} (h : isTkD d = true) : ∃ r, dcells d = .int .i64 (tkKind d) :: r ∧ r.length = 5 := by
  unfold isTkD at h
  split at h
  · rename_i k r
    exact ⟨r, rfl, by simpa using h⟩
  · cases h
theorem toks_of {F : Nat → Nat → Prop} {w : World} {v : Value} {ts : List D} (hd : Den0 F w v (.list ts)) (hall : ts.all isTkD = true) :
    ∃ A c, v = .slice A ts.length c ∧ ts.length ≤ c ∧ (ts ≠ [] → ∃ b off, A = some ⟨b, off, none⟩ ∧ ∀ i, i < ts.length → F b (off + i * 6) ∧ w.cell? ⟨b, off + i * 6, none⟩ = some (.int .i64 (tkKind (ts.getD i .bad)))) := by
  cases hd with
  | list a n c sz es vs h1 h2 h3 h4 h5 h6 h7 =>
    subst h1
    refine ⟨a, c, rfl, h2, fun hne => ?_⟩
    have hall' := List.all_eq_true.1 hall
    have hsz : sz = 6 := by
      obtain ⟨e0, r0, rfl⟩ := List.exists_cons_of_ne_nil hne
      obtain ⟨r, e1, e2⟩ := tk_len (hall' e0 (by simp))
      have := h4 e0 (by simp)
      rw [e1] at this
      simp only [List.length_cons, e2] at this
      exact this.symm
    subst hsz
    rcases h6 with h6 | ⟨b, off, ha, hc⟩
    · rw [h6] at h5
      have : ts.length = 0 := by simp at h5; omega
      exact absurd (List.length_eq_zero_iff.1 this) hne
    · refine ⟨b, off, ha, fun i hi => ?_⟩
      have he : ts[i]? = some ts[i] := List.getElem?_eq_getElem hi
      have hf := flat_at h4 he 0 (by decide)
      obtain ⟨r, e1, e2⟩ := tk_len (hall' ts[i] (List.getElem_mem hi))
      rw [e1] at hf
      simp only [Nat.add_zero, List.getElem?_cons_zero] at hf
      have hv : vs[i * 6]? = some (vs[i * 6]'(by omega)) := List.getElem?_eq_getElem (by omega)
      generalize vs[i * 6]'(by omega) = u at hv
      have h8 := h7 (i * 6) u _ hv hf
      have h9 := hc (i * 6) u hv
      cases h8
      have hg : ts.getD i .bad = ts[i] := by simp [List.getD, hi]
      rw [hg]
      exact ⟨h9.1, h9.2.1⟩
theorem ext_grown {μ : Nat → Nat} {F : Nat → Nat → Prop} {w w' : World} (hlt : Lt F w) (hg : w.grownBy w' (some (μ 0))) (hnF : ∀ o, ¬ F (μ 0) o) : Ext (fun b => ∃ i, i < 1 ∧ μ i = b) F w F w' := by
  refine ⟨hg.os, hg.tape, hg.output, hg.size, fun b hb hS => hg.block b hb (fun e => hS ⟨0, by decide, (Option.some.inj e).symm⟩), fun b o h => h, fun b o h => ?_⟩
  unfold World.cell?
  rw [hg.block b (hlt b o h) (fun e => hnF o (by rw [← Option.some.inj e]; exact h))]
theorem ret_box1 [Gs] {P : Program} {μ : Nat → Nat} {F : Nat → Nat → Prop} {w w' : World} {v : Value} {d : D} {cells : List D} (hv : Den0 F w' v d) (hlt : Lt F w) (hg : w.grownBy w' (some (μ 0))) (hnF : ∀ o, ¬ F (μ 0) o) (hb : BoxAt F w' (μ 0) cells) :
    Ret P 1 μ F w d [] [⟨0, cells⟩] (.returned v) w' := by
  refine ⟨v, F, fun _ => none, rfl, ext_grown hlt hg hnF, fun b o hf => Nat.lt_of_lt_of_le (hlt b o hf) hg.size, fun b o hf => .inl hf, .inl ⟨rfl, fun c' ν => .pure _ _ hv, rooms_nil⟩, fun i g h => (by cases h), fun i i' g h => (by cases h), fun i bx hi hbx => ?_⟩
  have : i = 0 := by omega
  subst this
  injection hbx with hbx
  subst hbx
  exact hb
/-- A reader's variable in memory. -/
theorem rdc_of {F : Nat → Nat → Prop} {w : World} {g : Nat} {ts : List D} {a e : Int} (h : BoxAt F w g [.list ts, .int .i64 a, .int .i64 e]) : ∃ L rest t fr, RdC w g L a e rest t fr ∧ Den0 F w L (.list ts) ∧ ∀ o, ¬ F g o := by
  obtain ⟨vs, t, rest, fr, ⟨h1, h0⟩, h2, h3, h4, h5⟩ := h
  match vs, h2 with
  | [L, x, y], _ =>
    have d0 := h4 0 L _ rfl rfl
    have d1 := h4 1 x _ rfl rfl
    have d2 := h4 2 y _ rfl rfl
    cases d1
    cases d2
    refine ⟨L, rest, t, fr, ⟨by simpa using h1, ?_⟩, d0, h5⟩
    rcases h0 with h0 | h0
    · exact .inl h0
    · refine .inr ?_
      simp at h0
      omega
theorem box_of {F : Nat → Nat → Prop} {w : World} {g : Nat} {ts : List D} {L : Value} {a e : Int} {rest : List Value} {t : TypeId} {fr : Nat × Nat} (h : RdC w g L a e rest t fr) (hd : Den0 F w L (.list ts)) (hn : ∀ o, ¬ F g o) : BoxAt F w g [.list ts, .int .i64 a, .int .i64 e] := by
  refine ⟨[L, .int .i64 a, .int .i64 e], t, rest, fr, ⟨by simpa using h.1, ?_⟩, rfl, ?_, ?_, hn⟩
  · rcases h.2 with h0 | h0
    · exact .inl h0
    · refine .inr ?_
      simp
      omega
  · intro v hv
    simp at hv
    rcases hv with rfl | rfl | rfl
    · cases hd; rfl
    · rfl
    · rfl
  · intro i v x hv hx
    match i with
    | 0 => simp at hv hx; subst hv; subst hx; exact hd
    | 1 => simp at hv hx; subst hv; subst hx; exact .int _ _
    | 2 => simp at hv hx; subst hv; subst hx; exact .int _ _
    | i + 3 => simp at hv
theorem pw_ints {F : Nat → Nat → Prop} {w : World} (k : IntKind) (zs : List Int) : ∀ (i : Nat) (v : Value) (x : D), (zs.map (Value.int k))[i]? = some v → (zs.map (D.int k))[i]? = some x → Den0 F w v x := by
  intro i v x hv hx
  simp only [List.getElem?_map, Option.map_eq_some_iff] at hv hx
  obtain ⟨z, hz, rfl⟩ := hv
  obtain ⟨z', hz', rfl⟩ := hx
  rw [hz] at hz'
  obtain rfl := Option.some.inj hz'
  exact .int k z
theorem flat_ints (k : IntKind) (zs : List Int) : flat (zs.map (D.int k)) = zs.map (D.int k) := by
  unfold flat
  rw [List.flatMap_map]
  induction zs with
  | nil => rfl
  | cons a r ih => rw [List.flatMap_cons, ih]; rfl
theorem sl_of_den {F : Nat → Nat → Prop} {w : World} {v : Value} {k : IntKind} {zs : List Int} (hd : Den0 F w v (.list (zs.map (D.int k)))) (hlt : Lt F w) : ∃ a c, v = .slice a zs.length c ∧ zs.length ≤ c ∧ Sl w w.heap.size a (zs.map (Value.int k)) := by
  generalize he : zs.map (D.int k) = es at hd
  cases hd with
  | list a n c sz es vs h1 h2 h3 h4 h5 h6 h7 =>
    subst he
    rw [List.length_map] at h1
    subst h1
    refine ⟨a, c, rfl, h2, fun hne => ?_⟩
    have hz : zs ≠ [] := by rintro rfl; exact hne rfl
    have hsz : sz = 1 := by
      obtain ⟨z, r, rfl⟩ := List.exists_cons_of_ne_nil hz
      have := h4 (.int k z) (by simp)
      simpa [dcells] using this.symm
    subst hsz
    rw [flat_ints] at h7
    rw [Nat.mul_one] at h5
    have hvs : vs = zs.map (Value.int k) := by
      apply List.ext_getElem?
      intro i
      by_cases hi : i < zs.length
      · have hv : vs[i]? = some vs[i] := List.getElem?_eq_getElem (by omega)
        have hx : (zs.map (D.int k))[i]? = some (.int k zs[i]) := by simp [hi]
        have := h7 i _ _ hv hx
        rw [hv]
        generalize vs[i] = u at this
        cases this
        simp [hi]
      · rw [List.getElem?_eq_none (by omega), List.getElem?_eq_none (by simp; omega)]
    rcases h6 with h6 | ⟨b, off, ha, hcell⟩
    · rw [h6] at h5
      exact absurd (List.length_eq_zero_iff.1 h5.symm) hz
    · have hpos : 0 < vs.length := by rw [h5]; exact List.length_pos_iff.2 hz
      have h0 := hcell 0 vs[0] (List.getElem?_eq_getElem hpos)
      refine ⟨b, off, ha, hlt _ _ h0.1, fun i hi => ?_⟩
      have := hcell i _ (by rw [hvs]; exact List.getElem?_eq_getElem hi)
      exact this.2.1
theorem byI_eq2 : ∀ {es : List D} {zs : List Int}, byI es = some zs → es = zs.map (D.int .u8) ∧ BytesOK zs
  | [], zs, h => by
    simp [byI] at h; subst h
    exact ⟨rfl, fun i hi => by simp at hi⟩
  | .int .u8 n :: r, zs, h => by
    simp only [byI] at h
    split at h
    · rename_i hn
      obtain ⟨ys, hy, rfl⟩ := Option.map_eq_some_iff.1 h
      obtain ⟨h1, h2⟩ := byI_eq2 hy
      refine ⟨by rw [h1]; rfl, fun i hi => ?_⟩
      cases i with
      | zero => exact hn
      | succ i => exact h2 i (by simpa using hi)
    · cases h
theorem grown_drew0 (w : World) (m : Nat) (r : Option Nat) : w.grownBy (w.drewN m) r := grown_drewN (World.grownBy.refl w r) m
theorem ext9a_ok : CallOK Try.prog ext9a := by
  intro f args pbs d r pbs' h
  unfold ext9a at h
  split at h
  · rename_i k ts a e
    split at h
    · rename_i hc
      simp only [Option.some.injEq, Prod.mk.injEq] at h
      obtain ⟨rfl, rfl, rfl⟩ := h
      refine ⟨⟨_, Try.func28, rfl⟩, fun vals w F μ hl hd hb _ hlt hg => ?_⟩
      match vals, hl with
      | [v1, v2], _ =>
        obtain ⟨d1, _⟩ := (hd 0 v1 _ rfl rfl).ptr_
        have d2 := (hd 1 v2 _ rfl rfl).int_
        have hμ : argNu μ 1000000 0 = μ 0 := rfl
        rw [hμ] at d1
        subst d1 d2
        have hB := (hb 0 _ rfl).1
        obtain ⟨L, rest, t, fr, hR, hL, hnF⟩ := rdc_of hB
        obtain ⟨A, c, rfl, hlc, hcs⟩ := toks_of hL hc.2.2
        obtain ⟨b, off, hbo⟩ : ∃ b off, a < e → a < ts.length ∧ A = some ⟨b, off, none⟩ ∧ w.cell? ⟨b, off + a.toNat * 6, none⟩ = some (.int .i64 (tkKind (ts.getD a.toNat .bad))) := by
          by_cases hae : a < e
          · have hal : a < ts.length := by rcases hc.2.1 with h | h <;> omega
            obtain ⟨b, off, h1, h2⟩ := hcs (by rintro rfl; simp at hal; omega)
            exact ⟨b, off, fun _ => ⟨hal, h1, (h2 a.toNat (by omega)).2⟩⟩
          · exact ⟨0, 0, fun h => absurd h hae⟩
        refine (is_any w (μ 0) b off ts.length c A a e k _ hR.c0 hR.c1 hR.c2 hc.1 hbo).mono ?_
        rintro y w' ⟨rfl, m, rfl⟩
        exact ret_box1 (.bool _) hlt (grown_drew0 w m _) hnF (box_of (hR.drewN m) (hL.ext (ext_grown hlt (grown_drew0 w m _) hnF)) hnF)
    · cases h
  · rename_i ts a e
    split at h
    · rename_i hc
      simp only [Option.some.injEq, Prod.mk.injEq] at h
      obtain ⟨rfl, rfl, rfl⟩ := h
      refine ⟨⟨_, Try.func38, rfl⟩, fun vals w F μ hl hd hb _ hlt hg => ?_⟩
      match vals, hl with
      | [v1], _ =>
        obtain ⟨d1, _⟩ := (hd 0 v1 _ rfl rfl).ptr_
        have hμ : argNu μ 1000000 0 = μ 0 := rfl
        rw [hμ] at d1
        subst d1
        have hB := (hb 0 _ rfl).1
        obtain ⟨L, rest, t, fr, hR, hL, hnF⟩ := rdc_of hB
        obtain ⟨A, c, rfl, hlc, hcs⟩ := toks_of hL hc.2.2.2
        have ha : ((a.toNat : Nat) : Int) = a := by omega
        by_cases hae : a < e
        · have he : ((e.toNat : Nat) : Int) = e := by omega
          have hel : e.toNat ≤ ts.length := by rcases hc.2.1 with h | h <;> omega
          obtain ⟨b, off, rfl, h2⟩ := hcs (by rintro rfl; simp at hel; omega)
          have h20 := h2 0 (by omega)
          have hbg : b ≠ μ 0 := fun hh => hnF (off + 0 * 6) (by rw [← hh]; exact h20.1)
          have hbl : b < w.heap.size := hlt b _ h20.1
          have hR' : RdC w (μ 0) (.slice (some ⟨b, off, none⟩) ts.length c) ((a.toNat : Nat) : Int) ((e.toNat : Nat) : Int) rest t fr := by rw [ha, he]; exact hR
          refine (value_any w (μ 0) b off ts.length c (fun i => tkKind (ts.getD i .bad)) a.toNat e.toNat rest t fr hR' hbg hbl hel hc.2.2.1 (by omega) (fun i hi => (h2 i hi).2)).mono ?_
          rintro y w' ⟨rfl, hgr, hR2⟩
          rw [he] at hR2
          exact ret_box1 (.bool _) hlt hgr hnF (box_of hR2 (hL.ext (ext_grown hlt hgr hnF)) hnF)
        · refine (value_no w (μ 0) a e hR.c1 hR.c2 (by omega)).mono ?_
          rintro y w' ⟨rfl, m, rfl⟩
          have hv : valueN (fun i => tkKind (ts.getD i .bad)) e.toNat (e.toNat + 1 - a.toNat) a.toNat [] = (a.toNat, false) := valueF_end (by omega)
          rw [hv]
          dsimp only
          rw [ha]
          exact ret_box1 (.bool _) hlt (grown_drew0 w m _) hnF (box_of (hR.drewN m) (hL.ext (ext_grown hlt (grown_drew0 w m _) hnF)) hnF)
    · cases h
  · rename_i es k
    obtain ⟨zs, hzs, h'⟩ := Option.bind_eq_some_iff.1 h
    clear h
    obtain ⟨rfl, hok⟩ := byI_eq2 hzs
    have h := h'
    clear h'
    split at h
    · rename_i hk
      simp only [Option.some.injEq, Prod.mk.injEq] at h
      obtain ⟨rfl, rfl, rfl⟩ := h
      refine ⟨⟨_, Try.func41, rfl⟩, fun vals w F μ hl hd _ _ hlt _ => ?_⟩
      match vals, hl with
      | [v1, v2], _ =>
        have d1 := (hd 0 v1 _ rfl rfl).list_
        have d2 := (hd 1 v2 _ rfl rfl).int_
        obtain ⟨a, c, rfl, hc, hs⟩ := sl_of_den d1 hlt
        subst d2
        obtain ⟨m, rfl⟩ : ∃ m : Nat, k = m := ⟨k.toNat, by omega⟩
        have hm : m < zs.length := by omega
        refine (rFirst_any w w.heap.size a zs.length c zs m (Nat.le_refl _) hok rfl hc hm hk.2.2 hs).mono ?_
        rintro e w' ⟨rfl, hb⟩
        refine ⟨_, F, fun _ => none, rfl, ?_, fun b o hf => Nat.lt_of_lt_of_le (hlt b o hf) hb.size, fun b o hf => .inl hf, .inl ⟨rfl, fun c' ν => ?_, rooms_nil⟩, fun i g h => (by cases h), fun i i' g h => (by cases h), fun i bx hi => absurd hi (Nat.not_lt_zero i)⟩
        · refine ⟨hb.os, hb.tape, hb.output, hb.size, fun b hb1 _ => hb.block b hb1, fun b o hf => hf, fun b o hf => ?_⟩
          unfold World.cell?
          rw [hb.block b (hlt b o hf)]
        · refine Den.tuple [.int .i64 _, .int .i64 _] _ rfl (fun i v x hv hx => ?_)
          match i with
          | 0 => simp at hv hx; subst hv; subst hx; exact .pure _ _ (.int _ _)
          | 1 => simp at hv hx; subst hv; subst hx; exact .pure _ _ (.int _ _)
          | i + 2 => simp at hv
    · cases h
  · cases h
end Go.Av
/- Chapter 19: the types, and what simple operations on them come to. -/
set_option maxRecDepth 10000
namespace Go.Av
open Go.Proofs
theorem ty3 : aggOf Try.prog 3 = some false ∧ sizeT Try.prog 3 = some 1 ∧ Try.prog.underlying 3 = some (.int .i64) := ⟨by kernel_rfl, by kernel_rfl, by kernel_rfl⟩
theorem ty4 : aggOf Try.prog 4 = some false ∧ sizeT Try.prog 4 = some 1 ∧ Try.prog.underlying 4 = some (.bool) := ⟨by kernel_rfl, by kernel_rfl, by kernel_rfl⟩
theorem ty5 : aggOf Try.prog 5 = some false ∧ sizeT Try.prog 5 = some 1 ∧ Try.prog.underlying 5 = some (.int .u8) := ⟨by kernel_rfl, by kernel_rfl, by kernel_rfl⟩
theorem ty9 : aggOf Try.prog 9 = some false ∧ sizeT Try.prog 9 = some 1 ∧ Try.prog.underlying 9 = some (.string) := ⟨by kernel_rfl, by kernel_rfl, by kernel_rfl⟩
theorem dp3 (cs : List D) (off : Nat) : dpart Try.prog 3 cs off = cs[off]? := by simp only [dpart, ty3.1]
theorem dp4 (cs : List D) (off : Nat) : dpart Try.prog 4 cs off = cs[off]? := by simp only [dpart, ty4.1]
theorem dp5 (cs : List D) (off : Nat) : dpart Try.prog 5 cs off = cs[off]? := by simp only [dpart, ty5.1]
theorem dp9 (cs : List D) (off : Nat) : dpart Try.prog 9 cs off = cs[off]? := by simp only [dpart, ty9.1]
theorem ty22 : elemT Try.prog 22 = some 5 ∧ Try.prog.underlying 22 = some (.slice 5) := ⟨by kernel_rfl, by kernel_rfl⟩
theorem ia22 (es : List D) (ki : IntKind) (i : Int) : dindexAddr Try.prog 22 (.list es) (.int ki i) = if 0 ≤ i ∧ i < es.length then (if (dcells (es.getD i.toNat .bad)).length = 1 then some (.fix (es.getD i.toNat .bad) 0) else none) else none := by
  simp only [dindexAddr, ty22.1, ty5.2.1]
theorem len22 (l : List D) : dlen Try.prog #[22] (.list l) = some (.int .i64 l.length) := by kernel_rfl
theorem ap22 (es fs : List D) (r : List Room) : dappend Try.prog #[22, 22] (.list es) (.list fs) r = if es.length + fs.length ≤ 1073741824 ∧ szOk 1 fs = true ∧ szOk 1 es = true ∧ (r = [.full] ∨ r = [.own 5]) then some (.list (es ++ fs), 5) else none := by
  have : (Try.prog.info? 5).map (fun i => (infoOk i, i.size)) = some (true, 1) := by kernel_rfl
  obtain ⟨i, hi, h⟩ := Option.map_eq_some_iff.1 this
  injection h with h1 h2
  simp only [dappend, ty22.1, hi, h1, h2, if_true, true_and]
theorem sl22 (es : List D) (lo hi : Option D) : dslice Try.prog 22 (.list es) lo hi none = if szOk 1 es = true then (dopt hi es.length es.length).bind fun h => (dopt lo h 0).map fun l => .list ((es.take h).drop l) else none := by kernel_rfl
theorem bs22e : dbuildSlice Try.prog 22 0 [] = some (.list []) := by kernel_rfl
theorem ty44 : elemT Try.prog 44 = some 3 ∧ Try.prog.underlying 44 = some (.slice 3) := ⟨by kernel_rfl, by kernel_rfl⟩
theorem ia44 (es : List D) (ki : IntKind) (i : Int) : dindexAddr Try.prog 44 (.list es) (.int ki i) = if 0 ≤ i ∧ i < es.length then (if (dcells (es.getD i.toNat .bad)).length = 1 then some (.fix (es.getD i.toNat .bad) 0) else none) else none := by
  simp only [dindexAddr, ty44.1, ty3.2.1]
theorem len44 (l : List D) : dlen Try.prog #[44] (.list l) = some (.int .i64 l.length) := by kernel_rfl
theorem ap44 (es fs : List D) (r : List Room) : dappend Try.prog #[44, 44] (.list es) (.list fs) r = if es.length + fs.length ≤ 1073741824 ∧ szOk 1 fs = true ∧ szOk 1 es = true ∧ (r = [.full] ∨ r = [.own 3]) then some (.list (es ++ fs), 3) else none := by
  have : (Try.prog.info? 3).map (fun i => (infoOk i, i.size)) = some (true, 1) := by kernel_rfl
  obtain ⟨i, hi, h⟩ := Option.map_eq_some_iff.1 this
  injection h with h1 h2
  simp only [dappend, ty44.1, hi, h1, h2, if_true, true_and]
theorem sl44 (es : List D) (lo hi : Option D) : dslice Try.prog 44 (.list es) lo hi none = if szOk 1 es = true then (dopt hi es.length es.length).bind fun h => (dopt lo h 0).map fun l => .list ((es.take h).drop l) else none := by kernel_rfl
theorem bs44e : dbuildSlice Try.prog 44 0 [] = some (.list []) := by kernel_rfl
theorem ty62 : elemT Try.prog 62 = some 9 ∧ Try.prog.underlying 62 = some (.slice 9) := ⟨by kernel_rfl, by kernel_rfl⟩
theorem ia62 (es : List D) (ki : IntKind) (i : Int) : dindexAddr Try.prog 62 (.list es) (.int ki i) = if 0 ≤ i ∧ i < es.length then (if (dcells (es.getD i.toNat .bad)).length = 1 then some (.fix (es.getD i.toNat .bad) 0) else none) else none := by
  simp only [dindexAddr, ty62.1, ty9.2.1]
theorem len62 (l : List D) : dlen Try.prog #[62] (.list l) = some (.int .i64 l.length) := by kernel_rfl
theorem ap62 (es fs : List D) (r : List Room) : dappend Try.prog #[62, 62] (.list es) (.list fs) r = if es.length + fs.length ≤ 1073741824 ∧ szOk 1 fs = true ∧ szOk 1 es = true ∧ (r = [.full] ∨ r = [.own 9]) then some (.list (es ++ fs), 9) else none := by
  have : (Try.prog.info? 9).map (fun i => (infoOk i, i.size)) = some (true, 1) := by kernel_rfl
  obtain ⟨i, hi, h⟩ := Option.map_eq_some_iff.1 this
  injection h with h1 h2
  simp only [dappend, ty62.1, hi, h1, h2, if_true, true_and]
theorem sl62 (es : List D) (lo hi : Option D) : dslice Try.prog 62 (.list es) lo hi none = if szOk 1 es = true then (dopt hi es.length es.length).bind fun h => (dopt lo h 0).map fun l => .list ((es.take h).drop l) else none := by kernel_rfl
theorem bs62e : dbuildSlice Try.prog 62 0 [] = some (.list []) := by kernel_rfl
theorem bs22 (k : IntKind) (n : Int) : dbuildSlice Try.prog 22 1 [(0, .int k n)] = some (.list [.int k n]) := by kernel_rfl
theorem bs22_2 (k : IntKind) (a b : Int) : dbuildSlice Try.prog 22 2 [(0, .int k a), (1, .int k b)] = some (.list [.int k a, .int k b]) := by kernel_rfl
theorem bs22_3 (k : IntKind) (a b c : Int) : dbuildSlice Try.prog 22 3 [(0, .int k a), (1, .int k b), (2, .int k c)] = some (.list [.int k a, .int k b, .int k c]) := by kernel_rfl
theorem bs22_4 (k : IntKind) (a b c d : Int) : dbuildSlice Try.prog 22 4 [(0, .int k a), (1, .int k b), (2, .int k c), (3, .int k d)] = some (.list [.int k a, .int k b, .int k c, .int k d]) := by kernel_rfl
theorem bs44 (k : IntKind) (n : Int) : dbuildSlice Try.prog 44 1 [(0, .int k n)] = some (.list [.int k n]) := by kernel_rfl
theorem ty56 : aggOf Try.prog 56 = some true ∧ sizeT Try.prog 56 = some 6 := ⟨by kernel_rfl, by kernel_rfl⟩
theorem dp56 (x0 x1 x2 x3 x4 x5 : D) : dpart Try.prog 56 [x0, x1, x2, x3, x4, x5] 0 = some (.agg [x0, x1, x2, x3, x4, x5]) := by simp only [dpart, ty56.1, ty56.2]; rfl
theorem fa56_0 (d : D) (off : Nat) : dfieldAddr Try.prog 56 (.fix d off) 0 = some (.fix d (off + 0)) := by kernel_rfl
theorem fp56_0 (k g off : Nat) : dfieldAddr Try.prog 56 (.ptr k g off) 0 = some (.ptr k g (off + 0)) := by kernel_rfl
theorem fa56_1 (d : D) (off : Nat) : dfieldAddr Try.prog 56 (.fix d off) 1 = some (.fix d (off + 1)) := by kernel_rfl
theorem fp56_1 (k g off : Nat) : dfieldAddr Try.prog 56 (.ptr k g off) 1 = some (.ptr k g (off + 1)) := by kernel_rfl
theorem fa56_2 (d : D) (off : Nat) : dfieldAddr Try.prog 56 (.fix d off) 2 = some (.fix d (off + 2)) := by kernel_rfl
theorem fp56_2 (k g off : Nat) : dfieldAddr Try.prog 56 (.ptr k g off) 2 = some (.ptr k g (off + 2)) := by kernel_rfl
theorem fa56_3 (d : D) (off : Nat) : dfieldAddr Try.prog 56 (.fix d off) 3 = some (.fix d (off + 3)) := by kernel_rfl
theorem fp56_3 (k g off : Nat) : dfieldAddr Try.prog 56 (.ptr k g off) 3 = some (.ptr k g (off + 3)) := by kernel_rfl
theorem fa56_4 (d : D) (off : Nat) : dfieldAddr Try.prog 56 (.fix d off) 4 = some (.fix d (off + 4)) := by kernel_rfl
theorem fp56_4 (k g off : Nat) : dfieldAddr Try.prog 56 (.ptr k g off) 4 = some (.ptr k g (off + 4)) := by kernel_rfl
theorem fa56_5 (d : D) (off : Nat) : dfieldAddr Try.prog 56 (.fix d off) 5 = some (.fix d (off + 5)) := by kernel_rfl
theorem fp56_5 (k g off : Nat) : dfieldAddr Try.prog 56 (.ptr k g off) 5 = some (.ptr k g (off + 5)) := by kernel_rfl
theorem zr56 : zeroOf Try.prog 56 = some [.int .i64 0, .int .i64 0, .int .i64 0, .str [], .str [], .bool false] := by kernel_rfl
theorem ty24 : elemT Try.prog 24 = some 56 ∧ Try.prog.underlying 24 = some (.slice 56) := ⟨by kernel_rfl, by kernel_rfl⟩
theorem ia24 (es : List D) (ki : IntKind) (i : Int) : dindexAddr Try.prog 24 (.list es) (.int ki i) = if 0 ≤ i ∧ i < es.length then (if (dcells (es.getD i.toNat .bad)).length = 6 then some (.fix (es.getD i.toNat .bad) 0) else none) else none := by
  simp only [dindexAddr, ty24.1, ty56.2]
theorem len24 (l : List D) : dlen Try.prog #[24] (.list l) = some (.int .i64 l.length) := by kernel_rfl
theorem ap24 (es fs : List D) (r : List Room) : dappend Try.prog #[24, 24] (.list es) (.list fs) r = if es.length + fs.length ≤ 1073741824 ∧ szOk 6 fs = true ∧ szOk 6 es = true ∧ (r = [.full] ∨ r = [.own 56]) then some (.list (es ++ fs), 56) else none := by
  have : (Try.prog.info? 56).map (fun i => (infoOk i, i.size)) = some (true, 6) := by kernel_rfl
  obtain ⟨i, hi, h⟩ := Option.map_eq_some_iff.1 this
  injection h with h1 h2
  simp only [dappend, ty24.1, hi, h1, h2, if_true, true_and]
theorem bs24e : dbuildSlice Try.prog 24 0 [] = some (.list []) := by kernel_rfl
theorem bs24 (x0 : Int) (x1 : Int) (x2 : Int) (x3 : List UInt8) (x4 : List UInt8) (x5 : Bool) : dbuildSlice Try.prog 24 1 [(0, .agg [.int .i64 x0, .int .i64 x1, .int .i64 x2, .str x3, .str x4, .bool x5])] = some (.list [.agg [.int .i64 x0, .int .i64 x1, .int .i64 x2, .str x3, .str x4, .bool x5]]) := by kernel_rfl
theorem ty32 : aggOf Try.prog 32 = some true ∧ sizeT Try.prog 32 = some 7 := ⟨by kernel_rfl, by kernel_rfl⟩
theorem dp32 (x0 x1 x2 x3 x4 x5 x6 : D) : dpart Try.prog 32 [x0, x1, x2, x3, x4, x5, x6] 0 = some (.agg [x0, x1, x2, x3, x4, x5, x6]) := by simp only [dpart, ty32.1, ty32.2]; rfl
theorem fa32_0 (d : D) (off : Nat) : dfieldAddr Try.prog 32 (.fix d off) 0 = some (.fix d (off + 0)) := by kernel_rfl
theorem fp32_0 (k g off : Nat) : dfieldAddr Try.prog 32 (.ptr k g off) 0 = some (.ptr k g (off + 0)) := by kernel_rfl
theorem fa32_1 (d : D) (off : Nat) : dfieldAddr Try.prog 32 (.fix d off) 1 = some (.fix d (off + 1)) := by kernel_rfl
theorem fp32_1 (k g off : Nat) : dfieldAddr Try.prog 32 (.ptr k g off) 1 = some (.ptr k g (off + 1)) := by kernel_rfl
theorem fa32_2 (d : D) (off : Nat) : dfieldAddr Try.prog 32 (.fix d off) 2 = some (.fix d (off + 2)) := by kernel_rfl
theorem fp32_2 (k g off : Nat) : dfieldAddr Try.prog 32 (.ptr k g off) 2 = some (.ptr k g (off + 2)) := by kernel_rfl
theorem fa32_3 (d : D) (off : Nat) : dfieldAddr Try.prog 32 (.fix d off) 3 = some (.fix d (off + 3)) := by kernel_rfl
theorem fp32_3 (k g off : Nat) : dfieldAddr Try.prog 32 (.ptr k g off) 3 = some (.ptr k g (off + 3)) := by kernel_rfl
theorem fa32_4 (d : D) (off : Nat) : dfieldAddr Try.prog 32 (.fix d off) 4 = some (.fix d (off + 4)) := by kernel_rfl
theorem fp32_4 (k g off : Nat) : dfieldAddr Try.prog 32 (.ptr k g off) 4 = some (.ptr k g (off + 4)) := by kernel_rfl
theorem fa32_5 (d : D) (off : Nat) : dfieldAddr Try.prog 32 (.fix d off) 5 = some (.fix d (off + 5)) := by kernel_rfl
theorem fp32_5 (k g off : Nat) : dfieldAddr Try.prog 32 (.ptr k g off) 5 = some (.ptr k g (off + 5)) := by kernel_rfl
theorem fa32_6 (d : D) (off : Nat) : dfieldAddr Try.prog 32 (.fix d off) 6 = some (.fix d (off + 6)) := by kernel_rfl
theorem fp32_6 (k g off : Nat) : dfieldAddr Try.prog 32 (.ptr k g off) 6 = some (.ptr k g (off + 6)) := by kernel_rfl
theorem zr32 : zeroOf Try.prog 32 = some [.bool false, .str [], .int .i64 0, .int .i64 0, .bool false, .int .i64 0, .int .i64 0] := by kernel_rfl
theorem ty26 : elemT Try.prog 26 = some 32 ∧ Try.prog.underlying 26 = some (.slice 32) := ⟨by kernel_rfl, by kernel_rfl⟩
theorem ia26 (es : List D) (ki : IntKind) (i : Int) : dindexAddr Try.prog 26 (.list es) (.int ki i) = if 0 ≤ i ∧ i < es.length then (if (dcells (es.getD i.toNat .bad)).length = 7 then some (.fix (es.getD i.toNat .bad) 0) else none) else none := by
  simp only [dindexAddr, ty26.1, ty32.2]
theorem len26 (l : List D) : dlen Try.prog #[26] (.list l) = some (.int .i64 l.length) := by kernel_rfl
theorem ap26 (es fs : List D) (r : List Room) : dappend Try.prog #[26, 26] (.list es) (.list fs) r = if es.length + fs.length ≤ 1073741824 ∧ szOk 7 fs = true ∧ szOk 7 es = true ∧ (r = [.full] ∨ r = [.own 32]) then some (.list (es ++ fs), 32) else none := by
  have : (Try.prog.info? 32).map (fun i => (infoOk i, i.size)) = some (true, 7) := by kernel_rfl
  obtain ⟨i, hi, h⟩ := Option.map_eq_some_iff.1 this
  injection h with h1 h2
  simp only [dappend, ty26.1, hi, h1, h2, if_true, true_and]
theorem bs26e : dbuildSlice Try.prog 26 0 [] = some (.list []) := by kernel_rfl
theorem bs26 (x0 : Bool) (x1 : List UInt8) (x2 : Int) (x3 : Int) (x4 : Bool) (x5 : Int) (x6 : Int) : dbuildSlice Try.prog 26 1 [(0, .agg [.bool x0, .str x1, .int .i64 x2, .int .i64 x3, .bool x4, .int .i64 x5, .int .i64 x6])] = some (.list [.agg [.bool x0, .str x1, .int .i64 x2, .int .i64 x3, .bool x4, .int .i64 x5, .int .i64 x6]]) := by kernel_rfl
theorem ty41 : aggOf Try.prog 41 = some true ∧ sizeT Try.prog 41 = some 4 := ⟨by kernel_rfl, by kernel_rfl⟩
theorem dp41 (x0 x1 x2 x3 : D) : dpart Try.prog 41 [x0, x1, x2, x3] 0 = some (.agg [x0, x1, x2, x3]) := by simp only [dpart, ty41.1, ty41.2]; rfl
theorem fa41_0 (d : D) (off : Nat) : dfieldAddr Try.prog 41 (.fix d off) 0 = some (.fix d (off + 0)) := by kernel_rfl
theorem fp41_0 (k g off : Nat) : dfieldAddr Try.prog 41 (.ptr k g off) 0 = some (.ptr k g (off + 0)) := by kernel_rfl
theorem fa41_1 (d : D) (off : Nat) : dfieldAddr Try.prog 41 (.fix d off) 1 = some (.fix d (off + 1)) := by kernel_rfl
theorem fp41_1 (k g off : Nat) : dfieldAddr Try.prog 41 (.ptr k g off) 1 = some (.ptr k g (off + 1)) := by kernel_rfl
theorem fa41_2 (d : D) (off : Nat) : dfieldAddr Try.prog 41 (.fix d off) 2 = some (.fix d (off + 2)) := by kernel_rfl
theorem fp41_2 (k g off : Nat) : dfieldAddr Try.prog 41 (.ptr k g off) 2 = some (.ptr k g (off + 2)) := by kernel_rfl
theorem fa41_3 (d : D) (off : Nat) : dfieldAddr Try.prog 41 (.fix d off) 3 = some (.fix d (off + 3)) := by kernel_rfl
theorem fp41_3 (k g off : Nat) : dfieldAddr Try.prog 41 (.ptr k g off) 3 = some (.ptr k g (off + 3)) := by kernel_rfl
theorem zr41 : zeroOf Try.prog 41 = some [.str [], .int .i64 0, .int .i64 0, .bool false] := by kernel_rfl
theorem ty35 : elemT Try.prog 35 = some 41 ∧ Try.prog.underlying 35 = some (.slice 41) := ⟨by kernel_rfl, by kernel_rfl⟩
theorem ia35 (es : List D) (ki : IntKind) (i : Int) : dindexAddr Try.prog 35 (.list es) (.int ki i) = if 0 ≤ i ∧ i < es.length then (if (dcells (es.getD i.toNat .bad)).length = 4 then some (.fix (es.getD i.toNat .bad) 0) else none) else none := by
  simp only [dindexAddr, ty35.1, ty41.2]
theorem len35 (l : List D) : dlen Try.prog #[35] (.list l) = some (.int .i64 l.length) := by kernel_rfl
theorem ap35 (es fs : List D) (r : List Room) : dappend Try.prog #[35, 35] (.list es) (.list fs) r = if es.length + fs.length ≤ 1073741824 ∧ szOk 4 fs = true ∧ szOk 4 es = true ∧ (r = [.full] ∨ r = [.own 41]) then some (.list (es ++ fs), 41) else none := by
  have : (Try.prog.info? 41).map (fun i => (infoOk i, i.size)) = some (true, 4) := by kernel_rfl
  obtain ⟨i, hi, h⟩ := Option.map_eq_some_iff.1 this
  injection h with h1 h2
  simp only [dappend, ty35.1, hi, h1, h2, if_true, true_and]
theorem bs35e : dbuildSlice Try.prog 35 0 [] = some (.list []) := by kernel_rfl
theorem bs35 (x0 : List UInt8) (x1 : Int) (x2 : Int) (x3 : Bool) : dbuildSlice Try.prog 35 1 [(0, .agg [.str x0, .int .i64 x1, .int .i64 x2, .bool x3])] = some (.list [.agg [.str x0, .int .i64 x1, .int .i64 x2, .bool x3]]) := by kernel_rfl
theorem bd56_012 (x0 : Int) (x1 : Int) (x2 : Int) : dbuild Try.prog 56 [(0, .int .i64 x0), (1, .int .i64 x1), (2, .int .i64 x2)] = some (.agg [.int .i64 x0, .int .i64 x1, .int .i64 x2, .str [], .str [], .bool false]) := by kernel_rfl
theorem bd56_0123 (x0 : Int) (x1 : Int) (x2 : Int) (x3 : List UInt8) : dbuild Try.prog 56 [(0, .int .i64 x0), (1, .int .i64 x1), (2, .int .i64 x2), (3, .str x3)] = some (.agg [.int .i64 x0, .int .i64 x1, .int .i64 x2, .str x3, .str [], .bool false]) := by kernel_rfl
theorem bd56_01235 (x0 : Int) (x1 : Int) (x2 : Int) (x3 : List UInt8) (x5 : Bool) : dbuild Try.prog 56 [(0, .int .i64 x0), (1, .int .i64 x1), (2, .int .i64 x2), (3, .str x3), (5, .bool x5)] = some (.agg [.int .i64 x0, .int .i64 x1, .int .i64 x2, .str x3, .str [], .bool x5]) := by kernel_rfl
theorem bd56_01 (x0 : Int) (x1 : Int) : dbuild Try.prog 56 [(0, .int .i64 x0), (1, .int .i64 x1)] = some (.agg [.int .i64 x0, .int .i64 x1, .int .i64 0, .str [], .str [], .bool false]) := by kernel_rfl
theorem bd56_01245 (x0 : Int) (x1 : Int) (x2 : Int) (x4 : List UInt8) (x5 : Bool) : dbuild Try.prog 56 [(0, .int .i64 x0), (1, .int .i64 x1), (2, .int .i64 x2), (4, .str x4), (5, .bool x5)] = some (.agg [.int .i64 x0, .int .i64 x1, .int .i64 x2, .str [], .str x4, .bool x5]) := by kernel_rfl
theorem bd32_24 (x2 : Int) (x4 : Bool) : dbuild Try.prog 32 [(2, .int .i64 x2), (4, .bool x4)] = some (.agg [.bool false, .str [], .int .i64 x2, .int .i64 0, .bool x4, .int .i64 0, .int .i64 0]) := by kernel_rfl
theorem bd32_012 (x0 : Bool) (x1 : List UInt8) (x2 : Int) : dbuild Try.prog 32 [(0, .bool x0), (1, .str x1), (2, .int .i64 x2)] = some (.agg [.bool x0, .str x1, .int .i64 x2, .int .i64 0, .bool false, .int .i64 0, .int .i64 0]) := by kernel_rfl
theorem bd32_  : dbuild Try.prog 32 [] = some (.agg [.bool false, .str [], .int .i64 0, .int .i64 0, .bool false, .int .i64 0, .int .i64 0]) := by kernel_rfl
theorem bd32_243 (x2 : Int) (x4 : Bool) (x3 : Int) : dbuild Try.prog 32 [(2, .int .i64 x2), (4, .bool x4), (3, .int .i64 x3)] = some (.agg [.bool false, .str [], .int .i64 x2, .int .i64 x3, .bool x4, .int .i64 0, .int .i64 0]) := by kernel_rfl
theorem bd41_  : dbuild Try.prog 41 [] = some (.agg [.str [], .int .i64 0, .int .i64 0, .bool false]) := by kernel_rfl
theorem bd41_0 (x0 : List UInt8) : dbuild Try.prog 41 [(0, .str x0)] = some (.agg [.str x0, .int .i64 0, .int .i64 0, .bool false]) := by kernel_rfl
theorem ty51 : aggOf Try.prog 51 = some true ∧ sizeT Try.prog 51 = some 3 := ⟨by kernel_rfl, by kernel_rfl⟩
theorem fp51_0 (k g off : Nat) : dfieldAddr Try.prog 51 (.ptr k g off) 0 = some (.ptr k g (off + 0)) := by kernel_rfl
theorem fp51_1 (k g off : Nat) : dfieldAddr Try.prog 51 (.ptr k g off) 1 = some (.ptr k g (off + 1)) := by kernel_rfl
theorem fp51_2 (k g off : Nat) : dfieldAddr Try.prog 51 (.ptr k g off) 2 = some (.ptr k g (off + 2)) := by kernel_rfl
theorem bd51 (l : List D) (a b : Int) : dbuild Try.prog 51 [(0, .list l), (1, .int .i64 a), (2, .int .i64 b)] = some (.agg [.list l, .int .i64 a, .int .i64 b]) := by kernel_rfl
theorem dp24 (cs : List D) (off : Nat) : dpart Try.prog 24 cs off = cs[off]? := by
  have h : aggOf Try.prog 24 = some false := by kernel_rfl
  simp only [dpart, h]
theorem ia22r (k g m : Nat) (ag : Bool) (ki : IntKind) (i : Int) : dindexAddr Try.prog 22 (.row k g m 1 ag) (.int ki i) = if 0 ≤ i ∧ i < m then some (.ptr k g (i.toNat * 1)) else none := by
  simp only [dindexAddr, ty22.1, ty5.2.1, and_true]
theorem len22r (k g n sz : Nat) (ag : Bool) : dlen Try.prog #[22] (.row k g n sz ag) = some (.int .i64 n) := by kernel_rfl
theorem len9 (l : List UInt8) : dlen Try.prog #[9] (.str l) = some (.int .i64 l.length) := by kernel_rfl
theorem ix9 (l : List UInt8) (k : IntKind) (n : Int) : dindex Try.prog 9 (.str l) (.int k n) = if 0 ≤ n ∧ n < l.length then some (.int .u8 ((l.getD n.toNat 0).toNat)) else none := by kernel_rfl
theorem sl9 (s : List UInt8) (lo hi : Option D) : dslice Try.prog 9 (.str s) lo hi none = (dopt hi s.length s.length).bind fun h => (dopt lo h 0).map fun l => .str ((s.take h).drop l) := by kernel_rfl
theorem cv53 (k : IntKind) (n : Int) : dconv Try.prog 5 3 (.int k n) = some (.int .i64 (IntKind.i64.wrap n)) := by kernel_rfl
theorem cv35 (k : IntKind) (n : Int) : dconv Try.prog 3 5 (.int k n) = some (.int .u8 (IntKind.u8.wrap n)) := by kernel_rfl
theorem cv922 (l : List UInt8) : dconv Try.prog 9 22 (.str l) = some (.list (l.map fun b => .int .u8 b.toNat)) := by kernel_rfl
theorem cv229 (es : List D) : dconv Try.prog 22 9 (.list es) = (bytesOf es).map .str := by kernel_rfl
theorem szOk_cons (sz : Nat) (e : D) (es : List D) : szOk sz (e :: es) = ((dcells e).length == sz) := rfl
theorem szOk_nil (sz : Nat) : szOk sz [] = true := rfl
theorem plainR_s (d : D) (r : List Room) : plainR (some (d, r, [])) = some (d, r) := rfl
theorem szI64 (rs : List Int) : szOk 1 (rs.map (D.int .i64)) = true := by cases rs <;> rfl
theorem szU8 (rs : List Int) : szOk 1 (rs.map (D.int .u8)) = true := by cases rs <;> rfl
end Go.Av
/- Chapter 19: the examples of the document, evaluated. -/
set_option linter.unusedVariables false
set_option maxRecDepth 100000
namespace Go.Av
open Go.Proofs Go.RowKit Go.Proofs.Ytaldmffahmomoaa
theorem mx9 : Try.prog.follows .mixedOrders = true := by kernel_rfl
theorem nm9 : (Try.prog.funcs.all fun fn => !(fn.name == "runtime.NumGoroutine")) = true := by kernel_rfl
theorem fine9 : Fine Try.prog := by
  refine ⟨mx9, fun f fn hf => ?_⟩
  have h := Array.all_eq_true_iff_forall_mem.1 nm9 fn (Array.mem_of_getElem? hf)
  simpa using h
theorem gok9 (F : Nat → Nat → Prop) (w : World) : GOK F w := ⟨fun g => .inl rfl, fun x hx => by cases hx⟩
/-- a{x:1} @m y{} b{ } -/
def bysA : List Int := [97, 123, 120, 58, 49, 125, 32, 64, 109, 32, 121, 123, 125, 32, 98, 123, 32, 125]
/-- x : 1 2 ! Important ; y: -/
def bysB : List Int := [120, 32, 58, 32, 49, 32, 50, 32, 33, 32, 73, 109, 112, 111, 114, 116, 97, 110, 116, 32, 59, 32, 121, 58]
def mkT (k a b : Int) (s n : List UInt8) (w : Bool) : D := .agg [.int .i64 k, .int .i64 a, .int .i64 b, .str s, .str n, .bool w]
def toksA : List D := [mkT 1 0 1 [97] [] false, mkT 23 1 2 [] [] false, mkT 1 2 3 [120] [] false, mkT 16 3 4 [] [] false, mkT 10 4 5 [] [49] true, mkT 24 5 6 [] [] false, mkT 13 6 7 [] [] false, mkT 3 7 9 [109] [] false,
  mkT 13 9 10 [] [] false, mkT 1 10 11 [121] [] false, mkT 23 11 12 [] [] false, mkT 24 12 13 [] [] false, mkT 13 13 14 [] [] false, mkT 1 14 15 [98] [] false, mkT 23 15 16 [] [] false, mkT 13 16 17 [] [] false, mkT 24 17 18 [] [] false, mkT 0 18 18 [] [] false]
def toksB : List D := [mkT 1 0 1 [120] [] false, mkT 13 1 2 [] [] false, mkT 16 2 3 [] [] false, mkT 13 3 4 [] [] false, mkT 10 4 5 [] [49] true, mkT 13 5 6 [] [] false, mkT 10 6 7 [] [50] true, mkT 13 7 8 [] [] false, mkT 9 8 9 [33] [] false,
  mkT 13 9 10 [] [] false, mkT 1 10 19 [73, 109, 112, 111, 114, 116, 97, 110, 116] [] false, mkT 13 19 20 [] [] false, mkT 17 20 21 [] [] false, mkT 13 21 22 [] [] false, mkT 1 22 23 [121] [] false, mkT 16 23 24 [] [] false, mkT 0 24 24 [] [] false]
def mkR (a : Bool) (s : List UInt8) (f t : Int) (h : Bool) (o e : Int) : D := .agg [.bool a, .str s, .int .i64 f, .int .i64 t, .bool h, .int .i64 o, .int .i64 e]
def rulsA : List D := [mkR false [] 0 1 true 2 5, mkR true [109] 8 10 true 11 11, mkR false [] 13 14 true 15 16]
def mkD (s : List UInt8) (f t : Int) (i : Bool) : D := .agg [.str s, .int .i64 f, .int .i64 t, .bool i]
def declsB : List D := [mkD [120] 4 7 true, mkD [121] 16 16 false]
theorem evA : aev Try.prog ext9a 60 9 [.list (bysA.map (D.int .u8))] [] = some (.list toksA, [.own 56], []) := by kernel_rfl
theorem evB : aev Try.prog ext9a 60 9 [.list (bysB.map (D.int .u8))] [] = some (.list toksB, [.own 56], []) := by kernel_rfl
theorem evR : aev Try.prog ext9a 60 10 [.list toksA, .int .i64 0, .int .i64 18, .bool true] [] = some (.list rulsA, [.own 32], []) := by kernel_rfl
theorem evD : aev Try.prog ext9a 60 15 [.list toksB, .int .i64 0, .int .i64 17] [] = some (.list declsB, [.own 41], []) := by kernel_rfl
end Go.Av
/- Chapter 19: what a call by the evaluator leaves in memory, for a caller that is walked by hand. -/
set_option linter.unusedVariables false
namespace Go.Av
open Go.Proofs Go.RowKit Go.Proofs.Ytaldmffahmomoaa
theorem ext_below {w w' : World} (hb : Below w.heap.size w w') : Ext (fun _ => False) (old w) w (old w') w' := by
  refine ⟨hb.os, hb.tape, hb.output, hb.size, fun b h _ => hb.block b h, fun b o h => Nat.lt_of_lt_of_le h hb.size, fun b o h => ?_⟩
  unfold World.cell?
  rw [hb.block b h]
/-- What the evaluator hands back without variables, the call does, in the memory as it stands. -/
theorem call_list {f N : Nat} {args : List D} {es : List D} {r : List Room} (ev : aev Try.prog ext9a N f args [] = some (.list es, r, [])) (vals : List Value) (w : World) (hl : vals.length = args.length)
    (hd : ∀ (i : Nat) (v : Value) (x : D), vals[i]? = some v → args[i]? = some x → Den0 (old w) w v x) :
    Calls Try.prog f vals.toArray w (fun e w' => ∃ v, e = .returned v ∧ Below w.heap.size w w' ∧ Den0 (old w') w' v (.list es)) := by
  obtain ⟨_, h⟩ := aev_sound fine9 ext9a_ok N f args [] _ _ _ ev
  refine (h vals w (old w) (fun _ => 0) hl (fun i v x h1 h2 => .pure _ _ (hd i v x h1 h2)) (fun i bx hb => by simp at hb) (fun i j hi => absurd hi (Nat.not_lt_zero i)) (old_lt w) (gok9 _ _)).mono ?_
  rintro e w' ⟨v, F', ncl, rfl, hE, hlt, _, hv, _⟩
  refine ⟨v, rfl, ⟨hE.os, hE.tape, hE.output, hE.size, fun b hb => hE.block b hb (by rintro ⟨i, hi, _⟩; exact absurd hi (Nat.not_lt_zero i))⟩, ?_⟩
  rcases hv with ⟨_, hv, _⟩ | ⟨h1, _⟩
  · have h0 := (hv 0 (fun _ _ => 0)).list_
    exact h0.ext (S := fun _ => False) ⟨rfl, rfl, rfl, Nat.le_refl _, fun _ _ _ => rfl, fun b o hf => hlt b o hf, fun _ _ _ => rfl⟩
  · simp at h1
/-- The form of a list in memory, and its cells. -/
theorem list_form {F : Nat → Nat → Prop} {w : World} {v : Value} {es : List D} {sz : Nat} (hd : Den0 F w v (.list es)) (hs : ∀ e ∈ es, (dcells e).length = sz) (hne : es ≠ []) :
    ∃ b off c, v = .slice (some ⟨b, off, none⟩) es.length c ∧ es.length ≤ c ∧ ∀ (i j : Nat) (x : D) (y : D), es[i]? = some x → (dcells x)[j]? = some y → ∃ u, w.cell? ⟨b, off + (i * sz + j), none⟩ = some u ∧ Den0 F w u y ∧ u.oneCell' = true := by
  cases hd with
  | list a n c sz' es vs h1 h2 h3 h4 h5 h6 h7 =>
    subst h1
    obtain ⟨e0, r0, rfl⟩ := List.exists_cons_of_ne_nil hne
    have hsz : sz' = sz := (h4 e0 (by simp)).symm.trans (hs e0 (by simp))
    subst hsz
    rcases h6 with h6 | ⟨b, off, ha, hc⟩
    · rw [h6] at h5
      simp only [List.length_nil, List.length_cons] at h5
      have : 0 < (r0.length + 1) * sz' := Nat.mul_pos (by omega) h3
      omega
    · subst ha
      refine ⟨b, off, c, rfl, h2, fun i j x y hi hj => ?_⟩
      have hjl : j < sz' := by rw [← h4 x (List.mem_of_getElem? hi)]; exact (List.getElem?_eq_some_iff.1 hj).1
      have hil : i < (e0 :: r0).length := (List.getElem?_eq_some_iff.1 hi).1
      have hf := flat_at h4 hi j hjl
      rw [hj] at hf
      have hb : i * sz' + j < vs.length := by
        rw [h5]
        calc i * sz' + j < i * sz' + sz' := by omega
          _ = (i + 1) * sz' := by rw [Nat.succ_mul]
          _ ≤ _ := Nat.mul_le_mul_right _ hil
      have hv : vs[i * sz' + j]? = some vs[i * sz' + j] := List.getElem?_eq_getElem hb
      exact ⟨_, (hc _ _ hv).2.1, h7 _ _ _ hv hf, (hc _ _ hv).2.2⟩
end Go.Av
/- Chapter 19: the examples of the document (speaks), walked by hand: they are true. -/
set_option linter.unusedVariables false
set_option linter.unusedSimpArgs false
set_option maxRecDepth 100000
namespace Go.Av
open Go.Proofs Go.RowKit Go.Proofs.Ytaldmffahmomoaa
/-- A literal's row, with its mark. -/
theorem lit_den (w : World) (zs : List Int) (fr : Nat × Nat) (n : Nat) (hn : zs.length = n) : Den0 (old (w.alloc (.cells (zs.map (Value.int .u8)).toArray 5 fr))) (w.alloc (.cells (zs.map (Value.int .u8)).toArray 5 fr)) (.slice (some ⟨w.heap.size, 0, none⟩) n n) (.list (zs.map (D.int .u8))) := by
  subst hn
  refine .list _ _ _ 1 _ (zs.map (Value.int .u8)) (by simp) (Nat.le_refl _) (by decide) (fun e he => ?_) (by simp) (.inr ⟨w.heap.size, 0, rfl, fun i v hi => ⟨?_, ?_, ?_⟩⟩) ?_
  · obtain ⟨z, _, rfl⟩ := List.mem_map.1 he
    rfl
  · show w.heap.size < (w.heap.push _).size
    simp
  · rw [World.cell?_alloc_mark, Nat.zero_add]
    simpa using hi
  · simp only [List.getElem?_map, Option.map_eq_some_iff] at hi
    obtain ⟨z, _, rfl⟩ := hi
    rfl
  · rw [flat_ints]
    exact pw_ints .u8 zs
theorem one_arg {F : Nat → Nat → Prop} {w : World} {a : Value} {d : D} (h : Den0 F w a d) : ∀ (i : Nat) (v : Value) (x : D), [a][i]? = some v → [d][i]? = some x → Den0 F w v x := by
  intro i v x h1 h2
  match i with
  | 0 => simp at h1 h2; subst h1; subst h2; exact h
  | i + 1 => simp at h1
theorem arg_cons {F : Nat → Nat → Prop} {w : World} {a : Value} {d : D} {vs : List Value} {ds : List D} (h : Den0 F w a d) (k : ∀ (i : Nat) (v : Value) (x : D), vs[i]? = some v → ds[i]? = some x → Den0 F w v x) :
    ∀ (i : Nat) (v : Value) (x : D), (a :: vs)[i]? = some v → (d :: ds)[i]? = some x → Den0 F w v x := by
  intro i v x h1 h2
  match i with
  | 0 => simp at h1 h2; subst h1; subst h2; exact h
  | i + 1 => simp at h1 h2; exact k i v x h1 h2
theorem callA (w : World) : Calls Try.prog 9 #[.slice (some ⟨w.heap.size, 0, none⟩) 18 18] (w.alloc (.cells #[.int .u8 97, .int .u8 123, .int .u8 120, .int .u8 58, .int .u8 49, .int .u8 125, .int .u8 32, .int .u8 64, .int .u8 109, .int .u8 32, .int .u8 121, .int .u8 123, .int .u8 125, .int .u8 32, .int .u8 98, .int .u8 123, .int .u8 32, .int .u8 125] 5 (18, 19))) fun e w' => ∃ v, e = .returned v ∧ Below (w.heap.size + 1) (w.alloc (.cells #[.int .u8 97, .int .u8 123, .int .u8 120, .int .u8 58, .int .u8 49, .int .u8 125, .int .u8 32, .int .u8 64, .int .u8 109, .int .u8 32, .int .u8 121, .int .u8 123, .int .u8 125, .int .u8 32, .int .u8 98, .int .u8 123, .int .u8 32, .int .u8 125] 5 (18, 19))) w' ∧ Den0 (old w') w' v (.list toksA) := by
  have h := call_list evA [.slice (some ⟨w.heap.size, 0, none⟩) 18 18] (w.alloc (.cells (bysA.map (Value.int .u8)).toArray 5 (18, 19))) rfl (one_arg (lit_den w bysA _ 18 rfl))
  refine Calls.mono h ?_
  rintro e w' ⟨v, rfl, hb, hd⟩
  exact ⟨v, rfl, hb.mono (by show _ ≤ (w.heap.push _).size; rw [Array.size_push]; exact Nat.le_refl _), hd⟩
theorem callB (w : World) : Calls Try.prog 9 #[.slice (some ⟨w.heap.size, 0, none⟩) 24 24] (w.alloc (.cells #[.int .u8 120, .int .u8 32, .int .u8 58, .int .u8 32, .int .u8 49, .int .u8 32, .int .u8 50, .int .u8 32, .int .u8 33, .int .u8 32, .int .u8 73, .int .u8 109, .int .u8 112, .int .u8 111, .int .u8 114, .int .u8 116, .int .u8 97, .int .u8 110, .int .u8 116, .int .u8 32, .int .u8 59, .int .u8 32, .int .u8 121, .int .u8 58] 5 (24, 25))) fun e w' => ∃ v, e = .returned v ∧ Below (w.heap.size + 1) (w.alloc (.cells #[.int .u8 120, .int .u8 32, .int .u8 58, .int .u8 32, .int .u8 49, .int .u8 32, .int .u8 50, .int .u8 32, .int .u8 33, .int .u8 32, .int .u8 73, .int .u8 109, .int .u8 112, .int .u8 111, .int .u8 114, .int .u8 116, .int .u8 97, .int .u8 110, .int .u8 116, .int .u8 32, .int .u8 59, .int .u8 32, .int .u8 121, .int .u8 58] 5 (24, 25))) w' ∧ Den0 (old w') w' v (.list toksB) := by
  have h := call_list evB [.slice (some ⟨w.heap.size, 0, none⟩) 24 24] (w.alloc (.cells (bysB.map (Value.int .u8)).toArray 5 (24, 25))) rfl (one_arg (lit_den w bysB _ 24 rfl))
  refine Calls.mono h ?_
  rintro e w' ⟨v, rfl, hb, hd⟩
  exact ⟨v, rfl, hb.mono (by show _ ≤ (w.heap.push _).size; rw [Array.size_push]; exact Nat.le_refl _), hd⟩
theorem den_below {w w' : World} {v : Value} {d : D} (h : Den0 (old w) w v d) (hb : Below w.heap.size w w') : Den0 (old w') w' v d := h.ext (ext_below hb)
theorem below_alloc (w : World) (o : Obj) : Below w.heap.size w (w.alloc o) := (Below.refl _ w).alloc (Nat.le_refl _) _
theorem den_bool {F : Nat → Nat → Prop} {w : World} {v : Value} {b : Bool} (h : Den0 F w v (.bool b)) : v = .bool b := by cases h; rfl
theorem den_int {F : Nat → Nat → Prop} {w : World} {v : Value} {k : IntKind} {n : Int} (h : Den0 F w v (.int k n)) : v = .int k n := by cases h; rfl
theorem den_str {F : Nat → Nat → Prop} {w : World} {v : Value} {l : List UInt8} (h : Den0 F w v (.str l)) : v = .string ⟨l.toArray⟩ := by cases h; rfl
theorem all_sz {es : List D} {sz : Nat} (h : (es.all fun e => (dcells e).length == sz) = true) : ∀ e ∈ es, (dcells e).length = sz := fun e he => by simpa using List.all_eq_true.1 h e he
theorem formA {F : Nat → Nat → Prop} {w : World} {v : Value} (h : Den0 F w v (.list toksA)) : ∃ b off c, v = .slice (some ⟨b, off, none⟩) 18 c ∧ 18 ≤ c := by
  obtain ⟨b, off, c, h1, h2, _⟩ := list_form (sz := 6) h (all_sz (by kernel_rfl)) (by unfold toksA; simp)
  exact ⟨b, off, c, h1, h2⟩
theorem formB {F : Nat → Nat → Prop} {w : World} {v : Value} (h : Den0 F w v (.list toksB)) : ∃ b off c, v = .slice (some ⟨b, off, none⟩) 17 c ∧ 17 ≤ c := by
  obtain ⟨b, off, c, h1, h2, _⟩ := list_form (sz := 6) h (all_sz (by kernel_rfl)) (by unfold toksB; simp)
  exact ⟨b, off, c, h1, h2⟩
theorem formR {F : Nat → Nat → Prop} {w : World} {v : Value} (h : Den0 F w v (.list rulsA)) : ∃ b off c, v = .slice (some ⟨b, off, none⟩) 3 c ∧ 3 ≤ c ∧ w.cell? ⟨b, off + 7, none⟩ = some (.bool true) ∧ w.cell? ⟨b, off + 7 + 1, none⟩ = some (.string ⟨#[109]⟩) := by
  obtain ⟨b, off, c, h1, h2, h3⟩ := list_form (sz := 7) h (all_sz (by kernel_rfl)) (by unfold rulsA; simp)
  obtain ⟨u, h4, h5, _⟩ := h3 1 0 (mkR true [109] 8 10 true 11 11) (.bool true) rfl rfl
  obtain ⟨u', h4', h5', _⟩ := h3 1 1 (mkR true [109] 8 10 true 11 11) (.str [109]) rfl rfl
  rw [den_bool h5] at h4
  rw [den_str h5'] at h4'
  exact ⟨b, off, c, h1, h2, h4, h4'⟩
theorem formD {F : Nat → Nat → Prop} {w : World} {v : Value} (h : Den0 F w v (.list declsB)) : ∃ b off c, v = .slice (some ⟨b, off, none⟩) 2 c ∧ 2 ≤ c ∧ w.cell? ⟨b, off + 3, none⟩ = some (.bool true) ∧ w.cell? ⟨b, off + 2, none⟩ = some (.int .i64 7) ∧ w.cell? ⟨b, off + 1, none⟩ = some (.int .i64 4) := by
  obtain ⟨b, off, c, h1, h2, h3⟩ := list_form (sz := 4) h (all_sz (by kernel_rfl)) (by unfold declsB; simp)
  obtain ⟨u, h4, h5, _⟩ := h3 0 3 (mkD [120] 4 7 true) (.bool true) rfl rfl
  obtain ⟨u', h4', h5', _⟩ := h3 0 2 (mkD [120] 4 7 true) (.int .i64 7) rfl rfl
  obtain ⟨u'', h4'', h5'', _⟩ := h3 0 1 (mkD [120] 4 7 true) (.int .i64 4) rfl rfl
  rw [den_bool h5] at h4
  rw [den_int h5'] at h4'
  rw [den_int h5''] at h4''
  exact ⟨b, off, c, h1, h2, by simpa using h4, by simpa using h4', by simpa using h4''⟩
theorem callR {w : World} {v : Value} (h : Den0 (old w) w v (.list toksA)) : Calls Try.prog 10 #[v, .int .i64 0, .int .i64 18, .bool true] w fun e w' => ∃ v, e = .returned v ∧ Below w.heap.size w w' ∧ Den0 (old w') w' v (.list rulsA) :=
  call_list evR [v, .int .i64 0, .int .i64 18, .bool true] w rfl (arg_cons h (arg_cons (.int _ _) (arg_cons (.int _ _) (one_arg (.bool _)))))
theorem callD {w : World} {v : Value} (h : Den0 (old w) w v (.list toksB)) : Calls Try.prog 15 #[v, .int .i64 0, .int .i64 17] w fun e w' => ∃ v, e = .returned v ∧ Below w.heap.size w w' ∧ Den0 (old w') w' v (.list declsB) :=
  call_list evD [v, .int .i64 0, .int .i64 17] w rfl (arg_cons h (arg_cons (.int _ _) (one_arg (.int _ _))))
theorem below_lit {w w' : World} {o : Obj} (h : Below (w.heap.size + 1) (w.alloc o) w') : Below w.heap.size w w' := (below_alloc w o).trans (h.mono (Nat.le_succ _))
theorem speaks_any (w : World) : Calls Try.prog 8 #[] w fun e w' => e = .returned (.bool true) ∧ Below w.heap.size w w' := by
  have kc := fun (w : World) (C : Array Value) (n c : Nat) => Lib.run_convert_bytes_const (P := Try.prog) w 22 5 C n c Try.underlying22 Try.underlying5
  have hA := callA w
  go_enter Try.func8, Try.ntmps8
  go_wp2_with (first
    | (go_at_call_of 9 (Value.slice (some ⟨w.heap.size, 0, none⟩) 18 18); refine hA.mono ?_; rintro e w1 ⟨v1, rfl, hb1, hd1⟩; obtain ⟨b1, o1, c1, rfl, hc1⟩ := formA hd1)
    | (go_at_call 9; refine (callB _).mono ?_; rintro e w2 ⟨v2, rfl, hb2, hd2⟩; obtain ⟨b2, o2, c2, rfl, hc2⟩ := formB hd2; have hd1' := den_below hd1 (below_lit hb2))
    | (go_at_call 10; refine (callR hd1').mono ?_; rintro e w3 ⟨v3, rfl, hb3, hd3⟩; obtain ⟨b3, o3, c3, rfl, hc3, _, _⟩ := formR hd3; have hd2' := den_below hd2 hb3)
    | (go_at_call 15; refine (callD hd2').mono ?_; rintro e w4 ⟨v4, rfl, hb4, hd4⟩; obtain ⟨b4, o4, c4, rfl, hc4, k4, k5, k6⟩ := formD hd4; have hd3' := den_below hd3 hb4; obtain ⟨b5, o5, c5, he5, hc5, k7, k8⟩ := formR hd3'; cases he5))
  have hB : Below w.heap.size w w4 := by
    have e1 := below_lit hb1
    have e2 := e1.trans ((below_lit hb2).mono e1.size)
    have e3 := e2.trans (hb3.mono e2.size)
    exact e3.trans (hb4.mono e3.size)
  clear hd1 hd2 hd3 hd4 hd1' hd2' hd3' hb1 hb2 hb3 hb4 hA kc
  go_quiet (fail)
  go_wp2
  go_ret
  exact ⟨rfl, hB.os, hB.tape, hB.output, hB.size, hB.block⟩
theorem ret_below [Gs] {P : Program} {μ : Nat → Nat} {F : Nat → Nat → Prop} {w w' : World} {v : Value} {d : D} (hv : Den0 F w' v d) (hlt : Lt F w) (hb : Below w.heap.size w w') : Ret P 0 μ F w d [] [] (.returned v) w' := by
  refine ⟨v, F, fun _ => none, rfl, ?_, fun b o hf => Nat.lt_of_lt_of_le (hlt b o hf) hb.size, fun b o hf => .inl hf, .inl ⟨rfl, fun c' ν => .pure _ _ hv, rooms_nil⟩, fun i g h => (by cases h), fun i i' g h => (by cases h), fun i bx hi => absurd hi (Nat.not_lt_zero i)⟩
  refine ⟨hb.os, hb.tape, hb.output, hb.size, fun b hb1 _ => hb.block b hb1, fun b o hf => hf, fun b o hf => ?_⟩
  unfold World.cell?
  rw [hb.block b (hlt b o hf)]
/-- All that is known of functions that were walked by hand holds in the model. -/
theorem ext9_ok : CallOK Try.prog ext9 := by
  intro f args pbs d r pbs' h
  unfold ext9 at h
  split at h
  · simp only [Option.some.injEq, Prod.mk.injEq] at h
    obtain ⟨rfl, rfl, rfl⟩ := h
    refine ⟨⟨_, Try.func8, rfl⟩, fun vals w F μ hl hd hb _ hlt hg => ?_⟩
    have hv : vals = [] := List.length_eq_zero_iff.1 hl
    subst hv
    refine (speaks_any w).mono ?_
    rintro e w' ⟨rfl, hb⟩
    exact ret_below (.bool _) hlt hb
  · exact ext9a_ok _ _ _ _ _ _ h
end Go.Av
/- Chapter 19: the document's tokenizer, small functions: kinds of characters, at places. -/
set_option linter.unusedSimpArgs false
set_option linter.unusedVariables false
set_option linter.unusedSectionVars false
set_option maxRecDepth 100000
namespace Go.Av
open Go.Proofs
theorem callL_ext {P : Program} [Gs] {ext : Call} {f : FuncId} {args : List D} {pbs : List Bx} {r : D × List Room × List Bx} (h : ext f args pbs = some r) : callL P ext f args pbs = some r :=
  aev_callL (N := 1) (by simp only [aev, h])
def spC (c : Int) : Bool := c == 32 || c == 9 || c == 10
def dgC (c : Int) : Bool := decide (48 ≤ c) && decide (c ≤ 57)
def smC (c : Int) : Int := if 65 ≤ c ∧ c ≤ 90 then c + 32 else c
def stC (c : Int) : Bool := decide (97 ≤ smC c) && decide (smC c ≤ 122) || c == 95 || decide (128 ≤ c)
def nmC (c : Int) : Bool := stC c || dgC c || c == 45
theorem sp_L (c : Int) : callL Try.prog ext9 48 [.int .i64 c] [] = some (.bool (spC c), [.no], []) := by
  refine callK (m := 13) (res := [2]) (rs := [.tmp 2]) rfl Try.func48 rfl rfl rfl rfl rfl ?_
  unfold spC
  repeat' (first
    | simp only [*, go_seq, go_retc, go_region, go_ops_nil, go_ops, okG_some, gwD_bool, gw_true, gw_false, guardG, opG, inB, sval, stake, eats, eaters, get, cval, cval1, croom, St.taken, put_slot, put_room, put_box, dem_none, dem_box, entry_slot, entry_room, entry_box, endQ, endR, endV, rvars, rvar, room1, ↓reduceIte, Nat.reduceEqDiff, Nat.reduceLT, reduceCtorEq, decide_true, List.filterMap_cons, List.filterMap_nil, Option.bind_some, Option.map_some, List.getElem?_cons_zero, List.getElem?_cons_succ, List.getD_cons_zero, List.contains_cons, List.contains_nil, List.map_nil, beq_self_eq_true, Bool.or_false, Bool.false_or, Bool.true_or, Nat.reduceBEq, Bool.false_eq_true, dbin, dIntBin, row9, frz9, frzOf_def, frz_nil, beq_false, Bool.not_true, pureB, leaf, leafN, List.take_nil, List.range_zero, List.length_nil, List.getElem?_nil, Bool.and_false, and_self, dStrBin]
    | (refine drW_intro (by kernel_rfl) ?_)
    | (refine gw_intro (fun h => ?_) (fun h => ?_) <;> (try simp only [Bool.not_eq_eq_eq_not, Bool.not_true, Bool.not_false] at h)))
  all_goals simp_all
theorem dg_L (c : Int) : callL Try.prog ext9 76 [.int .i64 c] [] = some (.bool (dgC c), [.no], []) := by
  refine callK (m := 9) (res := [2]) (rs := [.tmp 2]) rfl Try.func76 rfl rfl rfl rfl rfl ?_
  unfold dgC
  repeat' (first
    | simp only [*, go_seq, go_retc, go_region, go_ops_nil, go_ops, okG_some, gwD_bool, gw_true, gw_false, guardG, opG, inB, sval, stake, eats, eaters, get, cval, cval1, croom, St.taken, put_slot, put_room, put_box, dem_none, dem_box, entry_slot, entry_room, entry_box, endQ, endR, endV, rvars, rvar, room1, ↓reduceIte, Nat.reduceEqDiff, Nat.reduceLT, reduceCtorEq, decide_true, decide_false, List.filterMap_cons, List.filterMap_nil, Option.bind_some, Option.map_some, List.getElem?_cons_zero, List.getElem?_cons_succ, List.getD_cons_zero, List.contains_cons, List.contains_nil, List.map_nil, beq_self_eq_true, Bool.or_false, Bool.true_and, Nat.reduceBEq, Bool.false_eq_true, dbin, dIntBin, row9, frz9, frzOf_def, frz_nil, beq_true, pureB, leaf, leafN, List.take_nil, List.range_zero, List.length_nil, List.getElem?_nil, Bool.and_false, Bool.false_and, and_self, ge_iff_le, dStrBin]
    | (refine drW_intro (by kernel_rfl) ?_)
    | (refine gw_intro (fun h => ?_) (fun h => ?_) <;> (try simp only [decide_eq_true_eq, decide_eq_false_iff_not] at h)))
  all_goals simp_all
theorem sm_L (c : Int) (h0 : 0 ≤ c) (h1 : c ≤ 1114111) : callL Try.prog ext9 64 [.int .i64 c] [] = some (.int .i64 (smC c), [.no], []) := by
  refine callK (m := 12) (res := [2]) (rs := [.tmp 2]) rfl Try.func64 rfl rfl rfl rfl rfl ?_
  repeat' (first
    | simp only [*, go_seq, go_cond, go_skip, go_retc, go_region, go_ops_nil, go_ops, okG_some, gwD_bool, cwD_bool, gw_true, gw_false, guardG, opG, inB, sval, stake, eats, eaters, get, cval, cval1, croom, St.taken, put_slot, put_room, put_box, dem_none, dem_box, entry_slot, entry_room, entry_box, endQ, endR, endV, rvars, rvar, room1, ↓reduceIte, Nat.reduceEqDiff, Nat.reduceLT, reduceCtorEq, decide_true, decide_false, List.filterMap_cons, List.filterMap_nil, Option.bind_some, Option.map_some, List.getElem?_cons_zero, List.getElem?_cons_succ, List.getD_cons_zero, List.contains_cons, List.contains_nil, List.map_nil, beq_self_eq_true, Bool.or_false, Nat.reduceBEq, Bool.false_eq_true, dbin, dIntBin, row9, frz9, frzOf_def, frz_nil, beq_true, pureB, leaf, leafN, List.take_nil, List.range_zero, List.length_nil, List.getElem?_nil, Bool.and_false, and_true, ge_iff_le, dStrBin]
    | (refine drW_intro (by kernel_rfl) ?_)
    | (refine gw_intro (fun h => ?_) (fun h => ?_) <;> (try simp only [decide_eq_true_eq, decide_eq_false_iff_not] at h)))
  · rw [wrap64 (c + 32) (by omega) (by omega), smC, if_pos (by omega)]
  · rw [smC, if_neg (by omega)]
  · rw [smC, if_neg (by omega)]
theorem st_L (c : Int) (h0 : 0 ≤ c) (h1 : c ≤ 1114111) : callL Try.prog ext9 77 [.int .i64 c] [] = some (.bool (stC c), [.no], []) := by
  have hs := sm_L c h0 h1
  refine callK (m := 20) (res := [2]) (rs := [.tmp 2]) rfl Try.func77 rfl rfl rfl rfl rfl ?_
  unfold stC
  generalize smC c = y at *
  repeat' (first
    | simp only [*, go_seq, go_retc, go_region, go_ops_nil, go_ops, okG_some, gwD_bool, gw_true, gw_false, guardG, opG, isPtr, inB, sval, stake, eats, eaters, get, cval, cval1, croom, St.taken, put_slot, put_room, put_box, dem_none, dem_slot, dem_box, dem_room, entry_slot, entry_room, entry_box, endQ, endR, endV, rvars, rvar, room1, ↓reduceIte, Nat.reduceEqDiff, Nat.reduceLT, reduceCtorEq, decide_true, decide_false, List.filterMap_cons, List.filterMap_nil, Option.bind_some, Option.map_some, List.getElem?_cons_zero, List.getElem?_cons_succ, List.getD_cons_zero, List.contains_cons, List.contains_nil, List.map_cons, List.map_nil, beq_self_eq_true, Bool.or_false, Bool.false_or, Bool.true_or, Bool.and_true, Bool.true_and, Nat.reduceBEq, Bool.false_eq_true, dbin, dIntBin, okR, callG, row9, frz9, frzOf_def, frz_nil, beq_true, beq_false, Bool.not_true, pureB, leaf, leafN, List.all_cons, List.all_nil, List.nil_append, List.append_nil, List.take_nil, List.range_zero, List.length_nil, List.getElem?_nil, Bool.and_false, Bool.false_and, and_self, ge_iff_le, dStrBin]
    | (refine drW_intro (by kernel_rfl) ?_)
    | (refine gw_intro (fun h => ?_) (fun h => ?_) <;> (try simp only [Bool.not_eq_eq_eq_not, Bool.not_true, Bool.not_false, decide_eq_true_eq, decide_eq_false_iff_not] at h)))
  all_goals simp_all
theorem nm_L (c : Int) (h0 : 0 ≤ c) (h1 : c ≤ 1114111) : callL Try.prog ext9 71 [.int .i64 c] [] = some (.bool (nmC c), [.no], []) := by
  have hs := st_L c h0 h1
  have hd := dg_L c
  refine callK (m := 13) (res := [2]) (rs := [.tmp 2]) rfl Try.func71 rfl rfl rfl rfl rfl ?_
  unfold nmC
  generalize stC c = x at *
  generalize dgC c = y at *
  cases x <;> cases y
  all_goals
    repeat' (first
    | simp only [*, go_seq, go_retc, go_region, go_ops_nil, go_ops, okG_some, gwD_bool, gw_true, gw_false, guardG, opG, isPtr, inB, sval, stake, eats, eaters, get, cval, cval1, croom, St.taken, put_slot, put_room, put_box, dem_none, dem_box, setBox_slot, setBox_room, entry_slot, entry_room, entry_box, endQ, endR, endV, rvars, rvar, room1, ↓reduceIte, Nat.reduceEqDiff, Nat.reduceLT, reduceCtorEq, decide_true, List.filterMap_cons, List.filterMap_nil, Option.bind_some, Option.map_some, List.getElem?_cons_zero, List.getElem?_cons_succ, List.getD_cons_zero, List.contains_cons, List.contains_nil, List.map_cons, List.map_nil, beq_self_eq_true, Bool.or_false, Bool.false_or, Bool.or_true, Bool.true_or, Bool.and_true, Nat.reduceBEq, Bool.false_eq_true, dbin, dIntBin, okR, callG, row9, frz9, frzOf_def, frz_nil, beq_false, Bool.not_true, pureB, leaf, leafN, List.all_cons, List.all_nil, List.nil_append, List.append_nil, List.take_nil, List.range_zero, List.length_nil, List.getElem?_nil, Bool.and_false, and_self, dStrBin]
    | (refine drW_intro (by kernel_rfl) ?_)
    | (refine gw_intro (fun h => ?_) (fun h => ?_) <;> (try simp only [beq_true, beq_false, Bool.not_eq_eq_eq_not, Bool.not_true, Bool.not_false, Bool.not_not, decide_eq_true_eq, decide_eq_false_iff_not, ge_iff_le, gt_iff_lt] at h)))
/-- Characters in range; not too many. -/
structure CL (l : List Int) : Prop where
  rng : ∀ c ∈ l, 0 ≤ c ∧ c ≤ 1114111
  len : l.length ≤ 100000
theorem CL.at {l : List Int} (h : CL l) {a : Nat} (ha : a < l.length) : 0 ≤ l.getD a 0 ∧ l.getD a 0 ≤ 1114111 ∧ (l.map (D.int .i64)).getD a .bad = .int .i64 (l.getD a 0) := by
  have hm : l.getD a 0 ∈ l := by
    rw [List.getD_eq_getElem?_getD, List.getElem?_eq_getElem ha]
    exact List.getElem_mem _
  have := h.rng _ hm
  exact ⟨this.1, this.2, by simp [List.getD, ha]⟩
abbrev LI (l : List Int) : D := .list (l.map (D.int .i64))
theorem LIlen (l : List Int) : ((l.map (D.int .i64)).length : Int) = l.length := by simp
def isC (l : List Int) (a : Nat) (c : Int) : Bool := decide (a < l.length) && (l.getD a 0 == c)
def atB (p : Int → Bool) (l : List Int) (a : Nat) : Bool := decide (a < l.length) && p (l.getD a 0)
theorem is_L {l : List Int} (h : CL l) (a : Nat) (c : Int) : callL Try.prog ext9 53 [LI l, .int .i64 a, .int .i64 c] [] = some (.bool (isC l a c), [.no], []) := by
  have lN := LIlen l
  refine callK (m := 19) (res := [6]) (rs := [.tmp 6]) rfl Try.func53 rfl rfl rfl rfl rfl ?_
  unfold isC
  by_cases ha : a < l.length
  · have ha1 : (a : Int) < l.length := by omega
    obtain ⟨_, _, hg⟩ := h.at ha
    generalize l.getD a 0 = x at *
    have hd : decide (a < l.length) = true := by simp [ha]
    clear ha h
    repeat' (first
    | simp only [*, go_seq, go_retc, go_region, go_ops_nil, go_ops, okG_some, gwD_bool, gw_true, guardG, opG, isPtr, inB, sval, stake, eats, eaters, get, cval, cval1, croom, St.taken, put_slot, put_room, put_box, dem_none, dem_box, entry_slot, entry_room, entry_box, endQ, endR, endV, rvars, rvar, room1, ↓reduceIte, Nat.reduceEqDiff, Nat.reduceLT, reduceCtorEq, decide_true, List.filterMap_cons, List.filterMap_nil, Option.bind_some, Option.map_some, List.getElem?_cons_zero, List.getElem?_cons_succ, List.getD_cons_zero, List.getD_cons_succ, List.contains_cons, List.contains_nil, List.map_cons, List.map_nil, beq_self_eq_true, Bool.or_false, Bool.true_and, Nat.reduceBEq, Bool.false_eq_true, dbin, dIntBin, row9, frz9, frzOf_def, frz_nil, pureB, leaf, leafN, List.take_nil, List.range_zero, List.length_nil, List.length_cons, List.getElem?_nil, dcells, Nat.zero_add, Bool.and_false, Int.natCast_nonneg, Int.toNat_natCast, and_self, dStrBin, dp3, ia44, len44]
    | (refine drW_intro (by kernel_rfl) ?_)
    | (refine gw_intro (fun h => ?_) (fun h => ?_) <;> (try simp only [beq_true, beq_false, Bool.not_eq_eq_eq_not, Bool.not_true, Bool.not_false, Bool.not_not, decide_eq_true_eq, decide_eq_false_iff_not, ge_iff_le, gt_iff_lt] at h)))
  · have ha1 : ¬ (a : Int) < l.length := by omega
    have hd : decide (a < l.length) = false := by simp; omega
    clear ha h
    repeat' (first
    | simp only [*, go_seq, go_retc, go_region, go_ops_nil, go_ops, okG_some, gwD_bool, gw_false, guardG, opG, isPtr, inB, sval, stake, eats, eaters, get, cval, cval1, croom, St.taken, put_slot, put_room, put_box, dem_none, dem_box, entry_slot, entry_room, entry_box, endQ, endR, endV, rvars, rvar, room1, ↓reduceIte, Nat.reduceEqDiff, Nat.reduceLT, reduceCtorEq, decide_true, decide_false, List.filterMap_cons, List.filterMap_nil, Option.bind_some, Option.map_some, List.getElem?_cons_zero, List.getElem?_cons_succ, List.getD_cons_zero, List.getD_cons_succ, List.contains_cons, List.contains_nil, List.map_cons, List.map_nil, beq_self_eq_true, Bool.or_false, Nat.reduceBEq, Bool.false_eq_true, dbin, dIntBin, row9, frz9, frzOf_def, frz_nil, beq_true, pureB, leaf, leafN, List.take_nil, List.range_zero, List.length_nil, List.getElem?_nil, dcells, Bool.and_false, Bool.false_and, and_self, dStrBin, len44]
    | (refine drW_intro (by kernel_rfl) ?_)
    | (refine gw_intro (fun h => ?_) (fun h => ?_) <;> (try simp only [beq_true, beq_false, Bool.not_eq_eq_eq_not, Bool.not_true, Bool.not_false, Bool.not_not, decide_eq_true_eq, decide_eq_false_iff_not, ge_iff_le, gt_iff_lt] at h)))
theorem space_L {l : List Int} (h : CL l) (a : Nat) : callL Try.prog ext9 49 [LI l, .int .i64 a] [] = some (.bool (atB spC l a), [.no], []) := by
  have lN := LIlen l
  refine callK (m := 16) (res := [4]) (rs := [.tmp 4]) rfl Try.func49 rfl rfl rfl rfl rfl ?_
  unfold atB
  by_cases ha : a < l.length
  · have ha1 : (a : Int) < l.length := by omega
    obtain ⟨_, _, hg⟩ := h.at ha
    have hc := sp_L (l.getD a 0)
    generalize l.getD a 0 = x at *
    have hd : decide (a < l.length) = true := by simp [ha]
    clear ha h
    repeat' (first
    | simp only [*, go_seq, go_retc, go_region, go_ops_nil, go_ops, okG_some, gwD_bool, gw_true, guardG, opG, isPtr, inB, sval, stake, eats, eaters, get, cval, cval1, croom, St.taken, put_slot, put_room, put_box, dem_none, dem_box, setBox_slot, setBox_room, entry_slot, entry_room, entry_box, endQ, endR, endV, rvars, rvar, room1, ↓reduceIte, Nat.reduceEqDiff, Nat.reduceLT, reduceCtorEq, decide_true, List.filterMap_cons, List.filterMap_nil, Option.bind_some, Option.map_some, List.getElem?_cons_zero, List.getElem?_cons_succ, List.getD_cons_zero, List.getD_cons_succ, List.contains_cons, List.contains_nil, List.map_cons, List.map_nil, beq_self_eq_true, Bool.or_false, Bool.and_true, Bool.true_and, Nat.reduceBEq, Bool.false_eq_true, dbin, dIntBin, okR, callG, row9, frz9, frzOf_def, frz_nil, pureB, leaf, leafN, List.all_cons, List.all_nil, List.nil_append, List.append_nil, List.take_nil, List.range_zero, List.length_nil, List.length_cons, List.getElem?_nil, dcells, Nat.zero_add, Bool.and_false, Int.natCast_nonneg, Int.toNat_natCast, and_self, dp3, ia44, len44]
    | (refine drW_intro (by kernel_rfl) ?_)
    | (refine gw_intro (fun h => ?_) (fun h => ?_) <;> (try simp only [beq_true, beq_false, Bool.not_eq_eq_eq_not, Bool.not_true, Bool.not_false, Bool.not_not, decide_eq_true_eq, decide_eq_false_iff_not, ge_iff_le, gt_iff_lt] at h)))
  · have ha1 : ¬ (a : Int) < l.length := by omega
    have hd : decide (a < l.length) = false := by simp; omega
    clear ha h
    repeat' (first
    | simp only [*, go_seq, go_retc, go_region, go_ops_nil, go_ops, okG_some, gwD_bool, gw_false, guardG, opG, isPtr, inB, sval, stake, eats, eaters, get, cval, cval1, croom, St.taken, put_slot, put_room, put_box, dem_none, dem_box, setBox_slot, setBox_room, entry_slot, entry_room, entry_box, endQ, endR, endV, rvars, rvar, room1, ↓reduceIte, Nat.reduceEqDiff, Nat.reduceLT, reduceCtorEq, decide_true, decide_false, List.filterMap_cons, List.filterMap_nil, Option.bind_some, Option.map_some, List.getElem?_cons_zero, List.getElem?_cons_succ, List.getD_cons_zero, List.getD_cons_succ, List.contains_cons, List.contains_nil, List.map_cons, List.map_nil, beq_self_eq_true, Bool.or_false, Nat.reduceBEq, Bool.false_eq_true, dbin, dIntBin, okR, callG, row9, frz9, frzOf_def, frz_nil, beq_true, pureB, leaf, leafN, List.nil_append, List.take_nil, List.range_zero, List.length_nil, List.getElem?_nil, dcells, Bool.and_false, Bool.false_and, and_self, len44]
    | (refine drW_intro (by kernel_rfl) ?_)
    | (refine gw_intro (fun h => ?_) (fun h => ?_) <;> (try simp only [beq_true, beq_false, Bool.not_eq_eq_eq_not, Bool.not_true, Bool.not_false, Bool.not_not, decide_eq_true_eq, decide_eq_false_iff_not, ge_iff_le, gt_iff_lt] at h)))
theorem digit_L {l : List Int} (h : CL l) (a : Nat) : callL Try.prog ext9 67 [LI l, .int .i64 a] [] = some (.bool (atB dgC l a), [.no], []) := by
  have lN := LIlen l
  refine callK (m := 16) (res := [4]) (rs := [.tmp 4]) rfl Try.func67 rfl rfl rfl rfl rfl ?_
  unfold atB
  by_cases ha : a < l.length
  · have ha1 : (a : Int) < l.length := by omega
    obtain ⟨_, _, hg⟩ := h.at ha
    have hc := dg_L (l.getD a 0)
    generalize l.getD a 0 = x at *
    have hd : decide (a < l.length) = true := by simp [ha]
    clear ha h
    repeat' (first
    | simp only [*, go_seq, go_retc, go_region, go_ops_nil, go_ops, okG_some, gwD_bool, gw_true, guardG, opG, isPtr, inB, sval, stake, eats, eaters, get, cval, cval1, croom, St.taken, put_slot, put_room, put_box, dem_none, dem_box, setBox_slot, setBox_room, entry_slot, entry_room, entry_box, endQ, endR, endV, rvars, rvar, room1, ↓reduceIte, Nat.reduceEqDiff, Nat.reduceLT, reduceCtorEq, decide_true, List.filterMap_cons, List.filterMap_nil, Option.bind_some, Option.map_some, List.getElem?_cons_zero, List.getElem?_cons_succ, List.getD_cons_zero, List.getD_cons_succ, List.contains_cons, List.contains_nil, List.map_cons, List.map_nil, beq_self_eq_true, Bool.or_false, Bool.and_true, Bool.true_and, Nat.reduceBEq, Bool.false_eq_true, dbin, dIntBin, okR, callG, row9, frz9, frzOf_def, frz_nil, pureB, leaf, leafN, List.all_cons, List.all_nil, List.nil_append, List.append_nil, List.take_nil, List.range_zero, List.length_nil, List.length_cons, List.getElem?_nil, dcells, Nat.zero_add, Bool.and_false, Int.natCast_nonneg, Int.toNat_natCast, and_self, dp3, ia44, len44]
    | (refine drW_intro (by kernel_rfl) ?_)
    | (refine gw_intro (fun h => ?_) (fun h => ?_) <;> (try simp only [beq_true, beq_false, Bool.not_eq_eq_eq_not, Bool.not_true, Bool.not_false, Bool.not_not, decide_eq_true_eq, decide_eq_false_iff_not, ge_iff_le, gt_iff_lt] at h)))
  · have ha1 : ¬ (a : Int) < l.length := by omega
    have hd : decide (a < l.length) = false := by simp; omega
    clear ha h
    repeat' (first
    | simp only [*, go_seq, go_retc, go_region, go_ops_nil, go_ops, okG_some, gwD_bool, gw_false, guardG, opG, isPtr, inB, sval, stake, eats, eaters, get, cval, cval1, croom, St.taken, put_slot, put_room, put_box, dem_none, dem_box, setBox_slot, setBox_room, entry_slot, entry_room, entry_box, endQ, endR, endV, rvars, rvar, room1, ↓reduceIte, Nat.reduceEqDiff, Nat.reduceLT, reduceCtorEq, decide_true, decide_false, List.filterMap_cons, List.filterMap_nil, Option.bind_some, Option.map_some, List.getElem?_cons_zero, List.getElem?_cons_succ, List.getD_cons_zero, List.getD_cons_succ, List.contains_cons, List.contains_nil, List.map_cons, List.map_nil, beq_self_eq_true, Bool.or_false, Nat.reduceBEq, Bool.false_eq_true, dbin, dIntBin, okR, callG, row9, frz9, frzOf_def, frz_nil, beq_true, pureB, leaf, leafN, List.nil_append, List.take_nil, List.range_zero, List.length_nil, List.getElem?_nil, dcells, Bool.and_false, Bool.false_and, and_self, len44]
    | (refine drW_intro (by kernel_rfl) ?_)
    | (refine gw_intro (fun h => ?_) (fun h => ?_) <;> (try simp only [beq_true, beq_false, Bool.not_eq_eq_eq_not, Bool.not_true, Bool.not_false, Bool.not_not, decide_eq_true_eq, decide_eq_false_iff_not, ge_iff_le, gt_iff_lt] at h)))
theorem start_L {l : List Int} (h : CL l) (a : Nat) : callL Try.prog ext9 69 [LI l, .int .i64 a] [] = some (.bool (atB stC l a), [.no], []) := by
  have lN := LIlen l
  refine callK (m := 16) (res := [4]) (rs := [.tmp 4]) rfl Try.func69 rfl rfl rfl rfl rfl ?_
  unfold atB
  by_cases ha : a < l.length
  · have ha1 : (a : Int) < l.length := by omega
    obtain ⟨h0, h1, hg⟩ := h.at ha
    have hc := st_L (l.getD a 0) h0 h1
    generalize l.getD a 0 = x at *
    have hd : decide (a < l.length) = true := by simp [ha]
    clear ha h
    repeat' (first
    | simp only [*, go_seq, go_retc, go_region, go_ops_nil, go_ops, okG_some, gwD_bool, gw_true, guardG, opG, isPtr, inB, sval, stake, eats, eaters, get, cval, cval1, croom, St.taken, put_slot, put_room, put_box, dem_none, dem_box, setBox_slot, setBox_room, entry_slot, entry_room, entry_box, endQ, endR, endV, rvars, rvar, room1, ↓reduceIte, Nat.reduceEqDiff, Nat.reduceLT, reduceCtorEq, decide_true, List.filterMap_cons, List.filterMap_nil, Option.bind_some, Option.map_some, List.getElem?_cons_zero, List.getElem?_cons_succ, List.getD_cons_zero, List.getD_cons_succ, List.contains_cons, List.contains_nil, List.map_cons, List.map_nil, beq_self_eq_true, Bool.or_false, Bool.and_true, Bool.true_and, Nat.reduceBEq, Bool.false_eq_true, dbin, dIntBin, okR, callG, row9, frz9, frzOf_def, frz_nil, pureB, leaf, leafN, List.all_cons, List.all_nil, List.nil_append, List.append_nil, List.take_nil, List.range_zero, List.length_nil, List.length_cons, List.getElem?_nil, dcells, Nat.zero_add, Bool.and_false, Int.natCast_nonneg, Int.toNat_natCast, and_self, dp3, ia44, len44]
    | (refine drW_intro (by kernel_rfl) ?_)
    | (refine gw_intro (fun h => ?_) (fun h => ?_) <;> (try simp only [beq_true, beq_false, Bool.not_eq_eq_eq_not, Bool.not_true, Bool.not_false, Bool.not_not, decide_eq_true_eq, decide_eq_false_iff_not, ge_iff_le, gt_iff_lt] at h)))
  · have ha1 : ¬ (a : Int) < l.length := by omega
    have hd : decide (a < l.length) = false := by simp; omega
    clear ha h
    repeat' (first
    | simp only [*, go_seq, go_retc, go_region, go_ops_nil, go_ops, okG_some, gwD_bool, gw_false, guardG, opG, isPtr, inB, sval, stake, eats, eaters, get, cval, cval1, croom, St.taken, put_slot, put_room, put_box, dem_none, dem_box, setBox_slot, setBox_room, entry_slot, entry_room, entry_box, endQ, endR, endV, rvars, rvar, room1, ↓reduceIte, Nat.reduceEqDiff, Nat.reduceLT, reduceCtorEq, decide_true, decide_false, List.filterMap_cons, List.filterMap_nil, Option.bind_some, Option.map_some, List.getElem?_cons_zero, List.getElem?_cons_succ, List.getD_cons_zero, List.getD_cons_succ, List.contains_cons, List.contains_nil, List.map_cons, List.map_nil, beq_self_eq_true, Bool.or_false, Nat.reduceBEq, Bool.false_eq_true, dbin, dIntBin, okR, callG, row9, frz9, frzOf_def, frz_nil, beq_true, pureB, leaf, leafN, List.nil_append, List.take_nil, List.range_zero, List.length_nil, List.getElem?_nil, dcells, Bool.and_false, Bool.false_and, and_self, len44]
    | (refine drW_intro (by kernel_rfl) ?_)
    | (refine gw_intro (fun h => ?_) (fun h => ?_) <;> (try simp only [beq_true, beq_false, Bool.not_eq_eq_eq_not, Bool.not_true, Bool.not_false, Bool.not_not, decide_eq_true_eq, decide_eq_false_iff_not, ge_iff_le, gt_iff_lt] at h)))
theorem inner_L {l : List Int} (h : CL l) (a : Nat) : callL Try.prog ext9 57 [LI l, .int .i64 a] [] = some (.bool (atB nmC l a), [.no], []) := by
  have lN := LIlen l
  refine callK (m := 16) (res := [4]) (rs := [.tmp 4]) rfl Try.func57 rfl rfl rfl rfl rfl ?_
  unfold atB
  by_cases ha : a < l.length
  · have ha1 : (a : Int) < l.length := by omega
    obtain ⟨h0, h1, hg⟩ := h.at ha
    have hc := nm_L (l.getD a 0) h0 h1
    generalize l.getD a 0 = x at *
    have hd : decide (a < l.length) = true := by simp [ha]
    clear ha h
    repeat' (first
    | simp only [*, go_seq, go_retc, go_region, go_ops_nil, go_ops, okG_some, gwD_bool, gw_true, guardG, opG, isPtr, inB, sval, stake, eats, eaters, get, cval, cval1, croom, St.taken, put_slot, put_room, put_box, dem_none, dem_box, setBox_slot, setBox_room, entry_slot, entry_room, entry_box, endQ, endR, endV, rvars, rvar, room1, ↓reduceIte, Nat.reduceEqDiff, Nat.reduceLT, reduceCtorEq, decide_true, List.filterMap_cons, List.filterMap_nil, Option.bind_some, Option.map_some, List.getElem?_cons_zero, List.getElem?_cons_succ, List.getD_cons_zero, List.getD_cons_succ, List.contains_cons, List.contains_nil, List.map_cons, List.map_nil, beq_self_eq_true, Bool.or_false, Bool.and_true, Bool.true_and, Nat.reduceBEq, Bool.false_eq_true, dbin, dIntBin, okR, callG, row9, frz9, frzOf_def, frz_nil, pureB, leaf, leafN, List.all_cons, List.all_nil, List.nil_append, List.append_nil, List.take_nil, List.range_zero, List.length_nil, List.length_cons, List.getElem?_nil, dcells, Nat.zero_add, Bool.and_false, Int.natCast_nonneg, Int.toNat_natCast, and_self, dp3, ia44, len44]
    | (refine drW_intro (by kernel_rfl) ?_)
    | (refine gw_intro (fun h => ?_) (fun h => ?_) <;> (try simp only [beq_true, beq_false, Bool.not_eq_eq_eq_not, Bool.not_true, Bool.not_false, Bool.not_not, decide_eq_true_eq, decide_eq_false_iff_not, ge_iff_le, gt_iff_lt] at h)))
  · have ha1 : ¬ (a : Int) < l.length := by omega
    have hd : decide (a < l.length) = false := by simp; omega
    clear ha h
    repeat' (first
    | simp only [*, go_seq, go_retc, go_region, go_ops_nil, go_ops, okG_some, gwD_bool, gw_false, guardG, opG, isPtr, inB, sval, stake, eats, eaters, get, cval, cval1, croom, St.taken, put_slot, put_room, put_box, dem_none, dem_box, setBox_slot, setBox_room, entry_slot, entry_room, entry_box, endQ, endR, endV, rvars, rvar, room1, ↓reduceIte, Nat.reduceEqDiff, Nat.reduceLT, reduceCtorEq, decide_true, decide_false, List.filterMap_cons, List.filterMap_nil, Option.bind_some, Option.map_some, List.getElem?_cons_zero, List.getElem?_cons_succ, List.getD_cons_zero, List.getD_cons_succ, List.contains_cons, List.contains_nil, List.map_cons, List.map_nil, beq_self_eq_true, Bool.or_false, Nat.reduceBEq, Bool.false_eq_true, dbin, dIntBin, okR, callG, row9, frz9, frzOf_def, frz_nil, beq_true, pureB, leaf, leafN, List.nil_append, List.take_nil, List.range_zero, List.length_nil, List.getElem?_nil, dcells, Bool.and_false, Bool.false_and, and_self, len44]
    | (refine drW_intro (by kernel_rfl) ?_)
    | (refine gw_intro (fun h => ?_) (fun h => ?_) <;> (try simp only [beq_true, beq_false, Bool.not_eq_eq_eq_not, Bool.not_true, Bool.not_false, Bool.not_not, decide_eq_true_eq, decide_eq_false_iff_not, ge_iff_le, gt_iff_lt] at h)))
def escB (l : List Int) (a : Nat) : Bool := isC l a 92 && !isC l (a + 1) 10
theorem w1 (a : Nat) (h : a ≤ 200000) : IntKind.i64.wrap ((a : Int) + 1) = ((a + 1 : Nat) : Int) := by rw [wrap64 _ (by omega) (by omega)]; omega
theorem esc_L {l : List Int} (h : CL l) (a : Nat) (ha : a ≤ 100100) : callL Try.prog ext9 58 [LI l, .int .i64 a] [] = some (.bool (escB l a), [.no], []) := by
  have h1 := is_L h a 92
  have h2 := is_L h (a + 1) 10
  have hw := w1 a (by omega)
  refine callK (m := 15) (res := [4]) (rs := [.tmp 4]) rfl Try.func58 rfl rfl rfl rfl rfl ?_
  unfold escB
  generalize isC l a 92 = x at *
  generalize isC l (a + 1) 10 = y at *
  clear h
  cases x <;> cases y
  all_goals
    repeat' (first
    | simp only [*, go_seq, go_retc, go_region, go_ops_nil, go_ops, okG_some, gwD_bool, gw_true, gw_false, guardG, opG, isPtr, inB, sval, stake, eats, eaters, get, cval, cval1, croom, St.taken, put_slot, put_room, put_box, dem_none, dem_box, setBox_slot, setBox_room, entry_slot, entry_room, entry_box, endQ, endR, endV, rvars, rvar, room1, ↓reduceIte, Nat.reduceEqDiff, Nat.reduceLT, reduceCtorEq, decide_true, List.filterMap_cons, List.filterMap_nil, Option.bind_some, Option.map_some, List.getElem?_cons_zero, List.getElem?_cons_succ, List.getD_cons_zero, List.getD_cons_succ, List.contains_cons, List.contains_nil, List.map_cons, List.map_nil, beq_self_eq_true, Bool.or_false, Bool.and_true, Nat.reduceBEq, Bool.false_eq_true, dbin, dIntBin, okR, callG, row9, frz9, frzOf_def, frz_nil, beq_true, Bool.not_true, Bool.not_false, pureB, leaf, leafN, List.all_cons, List.all_nil, List.nil_append, List.append_nil, List.take_nil, List.range_zero, List.length_nil, dun, List.getElem?_nil, Bool.and_false, and_self, dStrBin]
    | (refine drW_intro (by kernel_rfl) ?_)
    | (refine gw_intro (fun h => ?_) (fun h => ?_) <;> (try simp only [beq_true, beq_false, Bool.not_eq_eq_eq_not, Bool.not_true, Bool.not_false, Bool.not_not, decide_eq_true_eq, decide_eq_false_iff_not, ge_iff_le, gt_iff_lt] at h)))
def nameB (l : List Int) (a : Nat) : Bool := if isC l a 45 then isC l (a + 1) 45 || atB stC l (a + 1) || escB l (a + 1) else atB stC l a || escB l a
theorem name_L {l : List Int} (h : CL l) (a : Nat) (ha : a ≤ 100050) : callL Try.prog ext9 54 [LI l, .int .i64 a] [] = some (.bool (nameB l a), [.no], []) := by
  have h1 := is_L h a 45
  have h2 := is_L h (a + 1) 45
  have h3 := start_L h (a + 1)
  have h4 := esc_L h (a + 1) (by omega)
  have h5 := start_L h a
  have h6 := esc_L h a (by omega)
  have hw := w1 a (by omega)
  refine callK (m := 32) (res := [4]) (rs := [.tmp 4]) rfl Try.func54 rfl rfl rfl rfl rfl ?_
  unfold nameB
  generalize isC l a 45 = x1 at *
  generalize isC l (a + 1) 45 = x2 at *
  generalize atB stC l (a + 1) = x3 at *
  generalize escB l (a + 1) = x4 at *
  generalize atB stC l a = x5 at *
  generalize escB l a = x6 at *
  clear h
  cases x1
  · cases x5 <;> cases x6
    all_goals
      repeat' (first
    | simp only [*, go_seq, go_cond, go_skip, go_retc, go_region, go_ops_nil, go_ops, okG_some, gwD_bool, cwD_bool, gw_true, gw_false, guardG, opG, isPtr, inB, sval, stake, eats, eaters, get, cval, cval1, croom, St.taken, put_slot, put_room, put_box, dem_none, dem_box, setBox_slot, setBox_room, entry_slot, entry_room, entry_box, endQ, endR, endV, rvars, rvar, room1, ↓reduceIte, Nat.reduceEqDiff, Nat.reduceLT, reduceCtorEq, decide_true, List.filterMap_cons, List.filterMap_nil, Option.bind_some, List.getElem?_cons_zero, List.getElem?_cons_succ, List.getD_cons_zero, List.getD_cons_succ, List.contains_cons, List.contains_nil, List.map_cons, List.map_nil, beq_self_eq_true, Bool.or_false, Bool.or_true, Bool.and_true, Nat.reduceBEq, Bool.false_eq_true, okR, callG, row9, frz9, frzOf_def, frz_nil, beq_false, Bool.not_true, pureB, leaf, leafN, List.all_cons, List.all_nil, List.nil_append, List.append_nil, List.take_nil, List.range_zero, List.length_nil, List.getElem?_nil, Bool.and_false, and_self]
    | (refine drW_intro (by kernel_rfl) ?_)
    | (refine gw_intro (fun h => ?_) (fun h => ?_) <;> (try simp only [beq_true, beq_false, Bool.not_eq_eq_eq_not, Bool.not_true, Bool.not_false, Bool.not_not, decide_eq_true_eq, decide_eq_false_iff_not, ge_iff_le, gt_iff_lt] at h)))
  · cases x2 <;> cases x3 <;> cases x4
    all_goals
      repeat' (first
    | simp only [*, go_seq, go_cond, go_retc, go_region, go_ops_nil, go_ops, okG_some, gwD_bool, cwD_bool, gw_true, gw_false, guardG, opG, isPtr, inB, sval, stake, eats, eaters, get, cval, cval1, croom, St.taken, put_slot, put_room, put_box, dem_none, dem_box, setBox_slot, setBox_room, entry_slot, entry_room, entry_box, endQ, endR, endV, rvars, rvar, room1, ↓reduceIte, Nat.reduceEqDiff, Nat.reduceLT, reduceCtorEq, decide_true, List.filterMap_cons, List.filterMap_nil, Option.bind_some, Option.map_some, List.getElem?_cons_zero, List.getElem?_cons_succ, List.getD_cons_zero, List.getD_cons_succ, List.contains_cons, List.contains_nil, List.map_cons, List.map_nil, beq_self_eq_true, Bool.or_false, Bool.or_true, Bool.and_true, Nat.reduceBEq, Bool.false_eq_true, dbin, dIntBin, okR, callG, row9, frz9, frzOf_def, frz_nil, beq_false, Bool.not_true, pureB, leaf, leafN, List.all_cons, List.all_nil, List.nil_append, List.append_nil, List.take_nil, List.range_zero, List.length_nil, List.getElem?_nil, Bool.and_false, and_self, dStrBin]
    | (refine drW_intro (by kernel_rfl) ?_)
    | (refine gw_intro (fun h => ?_) (fun h => ?_) <;> (try simp only [beq_true, beq_false, Bool.not_eq_eq_eq_not, Bool.not_true, Bool.not_false, Bool.not_not, decide_eq_true_eq, decide_eq_false_iff_not, ge_iff_le, gt_iff_lt] at h)))
def numB (l : List Int) (a : Nat) : Bool :=
  if isC l a 43 || isC l a 45 then atB dgC l (a + 1) || isC l (a + 1) 46 && atB dgC l (a + 1 + 1) else atB dgC l a || isC l a 46 && atB dgC l (a + 1)
theorem num_L {l : List Int} (h : CL l) (a : Nat) (ha : a ≤ 100050) : callL Try.prog ext9 51 [LI l, .int .i64 a] [] = some (.bool (numB l a), [.no], []) := by
  have h1 := is_L h a 43
  have h2 := is_L h a 45
  have h3 := digit_L h (a + 1)
  have h4 := is_L h (a + 1) 46
  have h5 := digit_L h (a + 1 + 1)
  have h6 := digit_L h a
  have h7 := is_L h a 46
  have hw := w1 a (by omega)
  have hw2 := w1 (a + 1) (by omega)
  refine callK (m := 29) (res := [4]) (rs := [.tmp 4]) rfl Try.func51 rfl rfl rfl rfl rfl ?_
  unfold numB
  generalize isC l a 43 = x1 at *
  generalize isC l a 45 = x2 at *
  generalize atB dgC l (a + 1) = x3 at *
  generalize isC l (a + 1) 46 = x4 at *
  generalize atB dgC l (a + 1 + 1) = x5 at *
  generalize atB dgC l a = x6 at *
  generalize isC l a 46 = x7 at *
  clear h
  cases x1
  · cases x2
    · cases x6 <;> cases x7 <;> cases x3
      all_goals
        repeat' (first
    | simp only [*, go_seq, go_cond, go_skip, go_retc, go_region, go_ops_nil, go_ops, okG_some, gwD_bool, gwD_undef, cwD_bool, gw_true, gw_false, guardG, opG, isPtr, inB, sval, stake, eats, eaters, get, cval, cval1, croom, St.taken, put_slot, put_room, put_box, dem_none, dem_box, setBox_slot, setBox_room, entry_slot, entry_room, entry_box, endQ, endR, endV, rvars, rvar, room1, ↓reduceIte, Nat.reduceEqDiff, Nat.reduceLT, reduceCtorEq, decide_true, List.filterMap_cons, List.filterMap_nil, Option.bind_some, Option.map_some, List.getElem?_cons_zero, List.getElem?_cons_succ, List.getD_cons_zero, List.getD_cons_succ, List.contains_cons, List.contains_nil, List.map_cons, List.map_nil, beq_self_eq_true, Bool.or_false, Bool.or_true, Bool.and_true, Nat.reduceBEq, Bool.false_eq_true, dbin, dIntBin, okR, callG, row9, frz9, frzOf_def, frz_nil, beq_true, beq_false, Bool.not_true, pureB, leaf, leafN, List.all_cons, List.all_nil, List.nil_append, List.append_nil, List.take_nil, List.range_zero, List.length_nil, List.getElem?_nil, Bool.and_false, and_self, dStrBin]
    | (refine drW_intro (by kernel_rfl) ?_)
    | (refine gw_intro (fun h => ?_) (fun h => ?_) <;> (try simp only [beq_true, beq_false, Bool.not_eq_eq_eq_not, Bool.not_true, Bool.not_false, Bool.not_not, decide_eq_true_eq, decide_eq_false_iff_not, ge_iff_le, gt_iff_lt] at h)))
    · cases x3 <;> cases x4 <;> cases x5
      all_goals
        repeat' (first
    | simp only [*, go_seq, go_cond, go_retc, go_region, go_ops_nil, go_ops, okG_some, gwD_bool, gwD_undef, cwD_bool, gw_true, gw_false, guardG, opG, isPtr, inB, sval, stake, eats, eaters, get, cval, cval1, croom, St.taken, put_slot, put_room, put_box, dem_none, dem_slot, dem_box, dem_room, setBox_slot, setBox_room, entry_slot, entry_room, entry_box, endQ, endR, endV, rvars, rvar, room1, ↓reduceIte, Nat.reduceEqDiff, Nat.reduceLT, reduceCtorEq, decide_true, List.filterMap_cons, List.filterMap_nil, Option.bind_some, Option.map_some, List.getElem?_cons_zero, List.getElem?_cons_succ, List.getD_cons_zero, List.getD_cons_succ, List.contains_cons, List.contains_nil, List.map_cons, List.map_nil, beq_self_eq_true, Bool.or_false, Bool.or_true, Bool.and_true, Nat.reduceBEq, Bool.false_eq_true, dbin, dIntBin, okR, callG, row9, frz9, frzOf_def, frz_nil, beq_true, beq_false, Bool.not_true, pureB, leaf, leafN, List.all_cons, List.all_nil, List.nil_append, List.append_nil, List.take_nil, List.range_zero, List.length_nil, List.getElem?_nil, Bool.and_false, and_self, dStrBin]
    | (refine drW_intro (by kernel_rfl) ?_)
    | (refine gw_intro (fun h => ?_) (fun h => ?_) <;> (try simp only [beq_true, beq_false, Bool.not_eq_eq_eq_not, Bool.not_true, Bool.not_false, Bool.not_not, decide_eq_true_eq, decide_eq_false_iff_not, ge_iff_le, gt_iff_lt] at h)))
  · cases x3 <;> cases x4 <;> cases x5
    all_goals
      repeat' (first
    | simp only [*, go_seq, go_cond, go_retc, go_region, go_ops_nil, go_ops, okG_some, gwD_bool, gwD_undef, cwD_bool, gw_true, gw_false, guardG, opG, isPtr, inB, sval, stake, eats, eaters, get, cval, cval1, croom, St.taken, put_slot, put_room, put_box, dem_none, dem_slot, dem_box, dem_room, setBox_slot, setBox_room, entry_slot, entry_room, entry_box, endQ, endR, endV, rvars, rvar, room1, ↓reduceIte, Nat.reduceEqDiff, Nat.reduceLT, reduceCtorEq, decide_true, List.filterMap_cons, List.filterMap_nil, Option.bind_some, Option.map_some, List.getElem?_cons_zero, List.getElem?_cons_succ, List.getD_cons_zero, List.getD_cons_succ, List.contains_cons, List.contains_nil, List.map_cons, List.map_nil, beq_self_eq_true, Bool.or_false, Bool.or_true, Bool.true_or, Bool.and_true, Nat.reduceBEq, Bool.false_eq_true, dbin, dIntBin, okR, callG, row9, frz9, frzOf_def, frz_nil, beq_true, beq_false, Bool.not_true, pureB, leaf, leafN, List.all_cons, List.all_nil, List.nil_append, List.append_nil, List.take_nil, List.range_zero, List.length_nil, List.getElem?_nil, Bool.and_false, and_self, dStrBin]
    | (refine drW_intro (by kernel_rfl) ?_)
    | (refine gw_intro (fun h => ?_) (fun h => ?_) <;> (try simp only [beq_true, beq_false, Bool.not_eq_eq_eq_not, Bool.not_true, Bool.not_false, Bool.not_not, decide_eq_true_eq, decide_eq_false_iff_not, ge_iff_le, gt_iff_lt] at h)))
end Go.Av
