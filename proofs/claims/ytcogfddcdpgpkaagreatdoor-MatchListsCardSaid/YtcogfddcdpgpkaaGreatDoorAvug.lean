/- The evaluator, in one text: over any program; no conditions but those that each law names. -/
import Derived.Test.YtcogfddcdpgpkaaGreatDoorAvua
import Derived.Test.YtcogfddcdpgpkaaGreatDoorAvub
import Derived.Test.YtcogfddcdpgpkaaGreatDoorAvuf
import Derived.Test.YtcogfddcdpgpkaaGreatDoorAvud
import Derived.Test.YtcogfddcdpgpkaaGreatDoorAvuc
import Derived.Test.YtcogfddcdpgpkaaGreatDoorAvb
import Derived.Test.YtcogfddcdpgpkaaGreatDoorAvue
set_option linter.unusedSimpArgs false
set_option linter.unusedVariables false
set_option linter.unusedSectionVars false
namespace Go.Proofs.YtcogfddcdpgpkaaGreatDoor
open Go.Proofs Go.RowKit Go.Shelf
attribute [local go_sem] Oper.semAt_some
def offS (LL : List (List Sm)) (i : Nat) : Nat := (LL.take i).flatten.length
theorem offS_succ {LL : List (List Sm)} {i : Nat} {row : List Sm} (h : LL[i]? = some row) : offS LL (i + 1) = offS LL i + row.length := by
 unfold offS
 rw [List.take_add_one, h]
 simp
theorem offS_all (LL : List (List Sm)) : offS LL LL.length = LL.flatten.length := by
 unfold offS
 rw [List.take_length]
theorem flat_idx {LL : List (List Sm)} {i j : Nat} {row : List Sm} {s : Sm} (h : LL[i]? = some row) (h2 : row[j]? = some s) : LL.flatten[offS LL i + j]? = some s := by
 have hi := (List.getElem?_eq_some_iff.1 h).1
 have hj := (List.getElem?_eq_some_iff.1 h2).1
 have e : LL = LL.take i ++ (row :: LL.drop (i + 1)) := by
  have h3 := List.getElem?_eq_some_iff.1 h
  obtain ⟨_, h4⟩ := h3
  rw [← h4, ← List.drop_eq_getElem_cons hi, List.take_append_drop]
 have e2 : LL.flatten = (LL.take i).flatten ++ (row ++ (LL.drop (i + 1)).flatten) := by
  conv => lhs; rw [e]
  rw [List.flatten_append, List.flatten_cons]
 rw [e2]
 unfold offS
 rw [List.getElem?_append_right (by omega), Nat.add_sub_cancel_left, List.getElem?_append_left hj, h2]
def smAt (LL : List (List Sm)) (x : Fin LL.flatten.length) : Sm := LL.flatten[x]
structure Cpx (LL : List (List Sm)) (n₀ : Nat) (W : World) (a2 : Option Addr) (c2 : Nat) (b2 o2 : Nat) : Prop where
 cap : LL.length ≤ c2
 len : LL.length ≤ 1000000
 adr : LL ≠ [] → a2 = some ⟨b2, o2, none⟩ ∧ b2 < n₀
 row : ∀ (i : Nat) (row : List Sm), LL[i]? = some row → ∃ comb a3 c3 b3 o3, W.cell? ⟨b2, o2 + i * 2, none⟩ = some (.int .i64 comb) ∧ W.cell? ⟨b2, o2 + i * 2 + 1, none⟩ = some (.slice a3 row.length c3) ∧ row.length ≤ c3 ∧ row.length ≤ 1000000 ∧
  (row ≠ [] → a3 = some ⟨b3, o3, none⟩ ∧ b3 < n₀) ∧ ∀ (j : Nat) (s : Sm), row[j]? = some s → ∀ t, t < 11 → W.cell? ⟨b3, o3 + j * 11 + t, none⟩ = s.cells[t]?
theorem ne_of_at {α : Type} {l : List α} {i : Nat} {x : α} (h : l[i]? = some x) : l ≠ [] := by
 rintro rfl
 simp at h
theorem Cpx.below {LL : List (List Sm)} {n₀ : Nat} {W W' : World} {a2 : Option Addr} {c2 b2 o2 : Nat} (h : Cpx LL n₀ W a2 c2 b2 o2) (hb : Below n₀ W W') : Cpx LL n₀ W' a2 c2 b2 o2 :=
 ⟨h.cap, h.len, h.adr, fun i row hr => by
  obtain ⟨comb, a3, c3, b3, o3, h3, h4, h5, h6, h7, h8⟩ := h.row i row hr
  have h2 := (h.adr (ne_of_at hr)).2
  exact ⟨comb, a3, c3, b3, o3, (hb.cell (p := ⟨b2, o2 + i * 2, none⟩) h2).trans h3, (hb.cell (p := ⟨b2, o2 + i * 2 + 1, none⟩) h2).trans h4, h5, h6, h7, fun j s hj t ht =>
   (hb.cell (p := ⟨b3, o3 + j * 11 + t, none⟩) (h7 (ne_of_at hj)).2).trans (h8 j s hj t ht)⟩⟩
set_option maxRecDepth 100000 in
set_option maxHeartbeats 4000000 in
theorem simplesM_in (F : Fence) (n : Nat) (h21 : F.fn 114) (hro : F.round = none) (hn : 1 ≤ n) (l Bs n₀ : Nat) (LL : List (List Sm)) (J Jx : List (Fin LL.flatten.length) → World → Prop)
  (b1 o1 c1 : Nat) (a2 : Option Addr) (c2 b2 o2 : Nat) (W : World) (hJ : AbidesFrom W.heap.size J)
  (hY : ∀ pre x W, J pre W → pre.length < LL.flatten.length → YieldAt F (n - 1) Tryz.prog l #[(smAt LL x).val] W fun e W' =>
   (e = .returned (.bool true) ∧ J (pre ++ [x]) W' ∧ Below n₀ W W') ∨ (e = .returned (.bool false) ∧ Jx (pre ++ [x]) W'))
  (hn₀ : n₀ ≤ W.heap.size) (hC : Cpx LL n₀ W a2 c2 b2 o2)
  (hBs : W.cell? ⟨Bs, 0, none⟩ = some (.slice (some ⟨b1, o1, none⟩) 1 c1)) (hc1 : W.cell? ⟨b1, o1, none⟩ = some (.slice a2 LL.length c2)) (h0 : J [] W) :
  CallsIn F n Tryz.prog 114 #[.func (.yield l) #[] #[], .pointer (some ⟨Bs, 0, none⟩)] W fun e W' => (∃ v, e = .returned v) ∧
   ((∃ ys, ys = List.finRange LL.flatten.length ∧ J ys W') ∨ (∃ pre, (∃ k, k ≤ LL.flatten.length ∧ pre = upto LL.flatten.length k) ∧ Jx pre W')) := by
 refine callsIn_of_wp Tryz.func114 rfl h21 ?_ hro
 simp only [Tryz.ntmps114, List.size_toArray, List.length_cons, List.length_nil, Nat.reduceAdd, Nat.reduceSub, Array.replicate_succ, Array.replicate_zero, List.push_toArray, List.append_toArray, List.nil_append, List.cons_append]
 have hcap := hC.cap
 have hlen := hC.len
 have hoff := offS_all LL
 obtain ⟨M, hM⟩ : ∃ M, M = LL.length := ⟨_, rfl⟩
 rw [← hM] at hcap hlen hc1 hoff
 by_cases hLe : LL = []
 ·have hM0 : M = 0 := by rw [hM, hLe]; rfl
  subst hM0
  clear hM
  gi_wp2
  gi_loopw [11] (fun i wr => (i = .int .i64 0 ∧ wr = W) ∨ (i = .int .i64 1 ∧ J (List.finRange LL.flatten.length) wr))
   (fun i _ => 1 - (intOf i).toNat)
  case atStart => exact .inl ⟨rfl, rfl⟩
  case round =>
   rcases hrel with ⟨rfl, hwr⟩ | ⟨rfl, hJs⟩
   ·have hJs : J [] wr := by rw [hwr]; exact h0
    have hx1 : wr.cell? ⟨b1, o1, none⟩ = some (.slice a2 0 c2) := by rw [hwr]; exact hc1
    clear hwr
    gi_wp2
    gi_loopw [18] (fun i wm => i = .int .i64 0 ∧ J [] wm)
     (fun i _ => 1 - (intOf i).toNat)
    case atStart => exact ⟨rfl, hJ _ _ _ none hJs (World.grownBy_alloc _ _ none) (fun r e => by cases e)⟩
    case round =>
     obtain ⟨rfl, hJm⟩ := hrel
     gi_wp2
     go_roundw
     case rel => exact .inr ⟨by simp, by subst hLe; exact hJm⟩
     case measure => simp [intOf]
   ·gi_wp2
    go_end0
    exact ⟨⟨_, rfl⟩, .inl ⟨_, rfl, hJs⟩⟩
 ·obtain ⟨rfl, hb2⟩ := hC.adr hLe
  gi_wp2
  gi_loopw [11] (fun i wr => (i = .int .i64 0 ∧ wr = W) ∨ (i = .int .i64 1 ∧ J (List.finRange LL.flatten.length) wr))
   (fun i _ => 1 - (intOf i).toNat)
  case atStart => exact .inl ⟨rfl, rfl⟩
  case round =>
   rcases hrel with ⟨rfl, hwr⟩ | ⟨rfl, hJs⟩
   ·have hJs : J [] wr := by rw [hwr]; exact h0
    have hnx : Below n₀ W wr := by rw [hwr]; exact Below.refl _ _
    have hx1 : wr.cell? ⟨b1, o1, none⟩ = some (.slice (some ⟨b2, o2, none⟩) M c2) := by rw [hwr]; exact hc1
    have hsz : W.heap.size ≤ wr.heap.size := by rw [hwr]; exact Nat.le_refl _
    clear hwr
    gi_wp2
    gi_loopw [18] (fun i wm => ∃ k : Nat, k ≤ M ∧ i = .int .i64 k ∧ J (upto LL.flatten.length (offS LL k)) wm ∧ Below n₀ W wm ∧ W.heap.size ≤ wm.heap.size)
     (fun i _ => M - (intOf i).toNat)
    case atStart => exact ⟨0, Nat.zero_le _, rfl, hJ _ _ _ none hJs (World.grownBy_alloc _ _ none) (fun r e => by cases e), hnx.alloc (by omega) _, by simp; omega⟩
    case round =>
     obtain ⟨k, hk, rfl, hJm, hnm, hsm⟩ := hrel
     by_cases hkM : k < M
     ·obtain ⟨row, hrow⟩ : ∃ row, LL[k]? = some row := ⟨_, List.getElem?_eq_getElem (by omega)⟩
      obtain ⟨comb, a3, c3, b3, o3, gx2, gx3, hN3, hN, had, hsm3⟩ := hC.row k row hrow
      have hx2 := (hnm.cell (p := ⟨b2, o2 + k * 2, none⟩) hb2).trans gx2
      have hx3 := (hnm.cell (p := ⟨b2, o2 + k * 2 + 1, none⟩) hb2).trans gx3
      clear gx2 gx3
      have hos := offS_succ hrow
      have hidx : ∀ j s, row[j]? = some s → LL.flatten[offS LL k + j]? = some s := fun j s h => flat_idx hrow h
      obtain ⟨N, hNe⟩ : ∃ N, N = row.length := ⟨_, rfl⟩
      rw [← hNe] at hx3 hN3 hN hos
      by_cases hre : row = []
      ·have hN0 : N = 0 := by rw [hNe, hre]; rfl
       subst hN0
       clear hNe
       gi_wp2
       gi_loopw [25] (fun i wi => i = .int .i64 0 ∧ J (upto LL.flatten.length (offS LL k)) wi ∧ Below n₀ W wi ∧ W.heap.size ≤ wi.heap.size)
        (fun i _ => 1 - (intOf i).toNat)
       case atStart => exact ⟨rfl, hJ _ _ _ none hJm (World.grownBy_alloc _ _ none) (fun r e => by cases e), hnm.alloc (by omega) _, by simp; omega⟩
       case round =>
        obtain ⟨rfl, hJi, hni, hsi⟩ := hrel
        gi_wp2
        go_roundw
        case rel => exact ⟨k + 1, by omega, by simp, by rw [hos]; exact hJi, hni, hsi⟩
        case measure => simp [intOf]; omega
      ·obtain ⟨rfl, hb3⟩ := had hre
       gi_wp2
       gi_loopw [25] (fun i wi => ∃ j : Nat, j ≤ N ∧ i = .int .i64 j ∧ J (upto LL.flatten.length (offS LL k + j)) wi ∧ Below n₀ W wi ∧ W.heap.size ≤ wi.heap.size)
        (fun i _ => N - (intOf i).toNat)
       case atStart => exact ⟨0, Nat.zero_le _, rfl, hJ _ _ _ none hJm (World.grownBy_alloc _ _ none) (fun r e => by cases e), hnm.alloc (by omega) _, by simp; omega⟩
       case round =>
        obtain ⟨j, hj, rfl, hJi, hni, hsi⟩ := hrel
        by_cases hlt : j < N
        ·obtain ⟨s, hs⟩ : ∃ s, row[j]? = some s := ⟨_, List.getElem?_eq_getElem (by omega)⟩
         have hc4 := hsm3 j s hs
         have hcx : ∀ t, t < 11 → wr.cell? ⟨b3, o3 + j * 11 + t, none⟩ = s.cells[t]? := fun t ht => (hni.cell (p := ⟨b3, o3 + j * 11 + t, none⟩) hb3).trans (hc4 t ht)
         have hgi := hidx j s hs
         have hgl := (List.getElem?_eq_some_iff.1 hgi).1
         have hfin := hlt
         have x0 : wr.cell? ⟨b3, o3 + j * 11, none⟩ = some (.int .i64 s.kind) := (hcx 0 (by decide)).trans rfl
         have x1 : wr.cell? ⟨b3, o3 + j * 11 + 1, none⟩ = some (.int .i64 s.ns) := (hcx 1 (by decide)).trans rfl
         have x2 : wr.cell? ⟨b3, o3 + j * 11 + 2, none⟩ = some (.string s.pre) := (hcx 2 (by decide)).trans rfl
         have x3 : wr.cell? ⟨b3, o3 + j * 11 + 3, none⟩ = some (.string s.nm) := (hcx 3 (by decide)).trans rfl
         have x4 : wr.cell? ⟨b3, o3 + j * 11 + 4, none⟩ = some (.int .i64 s.op) := (hcx 4 (by decide)).trans rfl
         have x5 : wr.cell? ⟨b3, o3 + j * 11 + 5, none⟩ = some (.string s.tx) := (hcx 5 (by decide)).trans rfl
         have x6 : wr.cell? ⟨b3, o3 + j * 11 + 6, none⟩ = some (.bool s.fold) := (hcx 6 (by decide)).trans rfl
         have x7 : wr.cell? ⟨b3, o3 + j * 11 + 7, none⟩ = some (.int .i64 s.mark) := (hcx 7 (by decide)).trans rfl
         have x8 : wr.cell? ⟨b3, o3 + j * 11 + 8, none⟩ = some (.int .i64 s.a) := (hcx 8 (by decide)).trans rfl
         have x9 : wr.cell? ⟨b3, o3 + j * 11 + 9, none⟩ = some (.int .i64 s.b) := (hcx 9 (by decide)).trans rfl
         have x10 : wr.cell? ⟨b3, o3 + j * 11 + 10, none⟩ = some (.slice s.of_ s.n s.c) := (hcx 10 (by decide)).trans rfl
         have hse : smAt LL ⟨offS LL k + j, hgl⟩ = s := (List.getElem?_eq_some_iff.1 hgi).2
         obtain ⟨fn, tmps, assign, body, hy, hR⟩ := hY (upto LL.flatten.length (offS LL k + j)) ⟨offS LL k + j, hgl⟩ (wr.alloc (.cells #[.int .i64 s.kind, .int .i64 s.ns, .string s.pre, .string s.nm, .int .i64 s.op, .string s.tx, .bool s.fold, .int .i64 s.mark, .int .i64 s.a, .int .i64 s.b, .slice s.of_ s.n s.c] 42)) (hJ _ _ _ none hJi (World.grownBy_alloc _ _ none) (fun r e => by cases e)) (by rw [upto_length (by omega)]; exact hgl)
         rw [hse] at hy
         dsimp only [Sm.val] at hy
         clear hcx hs hc4 hse hgi
         gi_wp2
         refine hR.mono ?_
         rintro e W3 (⟨rfl, hJ3, hk3⟩ | ⟨rfl, hJx3⟩)
         ·gi_wp2
          go_roundw
          case rel => exact ⟨j + 1, by omega, by simp, by rw [show offS LL k + (j + 1) = (offS LL k + j) + 1 by omega, upto_succ hgl]; exact hJ3, (hni.alloc (by omega) _).trans hk3, by have := hk3.size; simp at this; omega⟩
          case measure => simp [intOf]; omega
         ·gi_wp2
          refine bodyPost_ret (results_none rfl _ _ _) rfl ?_
          exact ⟨⟨_, rfl⟩, .inr ⟨_, ⟨offS LL k + j + 1, by omega, (upto_succ hgl).symm⟩, hJx3⟩⟩
        ·obtain rfl : j = N := by omega
         gi_wp2
         go_roundw
         case rel => exact ⟨k + 1, by omega, by simp, by rw [hos]; exact hJi, hni, hsi⟩
         case measure => simp [intOf]; omega
     ·obtain rfl : k = M := by omega
      gi_wp2
      go_roundw
      case rel => exact .inr ⟨by simp, by have h := hJm; rw [hoff, upto_all] at h; exact h⟩
      case measure => simp [intOf]
   ·gi_wp2
    go_end0
    exact ⟨⟨_, rfl⟩, .inl ⟨_, rfl, hJs⟩⟩
theorem simplesM_stops (F : Fence) (n : Nat) (h21 : F.fn 114) (hro : F.round = none) (hn : 1 ≤ n) (Bs n₀ : Nat) (LL : List (List Sm)) (b1 o1 c1 : Nat) (a2 : Option Addr) (c2 b2 o2 : Nat)
  (w : World) (hB1 : b1 < w.heap.size) (hBl : Bs < w.heap.size) (hn₀ : n₀ ≤ w.heap.size) (hC : Cpx LL n₀ w a2 c2 b2 o2)
  (hBs : w.cell? ⟨Bs, 0, none⟩ = some (.slice (some ⟨b1, o1, none⟩) 1 c1)) (hc1 : w.cell? ⟨b1, o1, none⟩ = some (.slice a2 LL.length c2)) :
  SeqStopsK F n Tryz.prog 114 #[.pointer (some ⟨Bs, 0, none⟩)] (fun x : Fin LL.flatten.length => #[(smAt LL x).val]) (Below n₀) (fun ys => ys = List.finRange LL.flatten.length) (fun pre => ∃ k, k ≤ LL.flatten.length ∧ pre = upto LL.flatten.length k) LL.flatten.length w := fun l J Jx W hW hJ _ hY h0 =>
 simplesM_in F n h21 hro hn l Bs n₀ LL J Jx b1 o1 c1 a2 c2 b2 o2 W hJ hY (Nat.le_trans hn₀ hW.size) (hC.below (hW.mono hn₀))
  ((hW.cell (p := ⟨Bs, 0, none⟩) hBl).trans hBs) ((hW.cell (p := ⟨b1, o1, none⟩) hB1).trans hc1) h0
set_option maxRecDepth 100000 in
set_option maxHeartbeats 4000000 in
theorem spec_anyM (w : World) (LL : List (List Sm)) (a2 : Option Addr) (c2 b2 o2 : Nat) (hC : Cpx LL w.heap.size w a2 c2 b2 o2) (o : Fin LL.flatten.length → Int × Int × Int)
  (hone : ∀ (i : Fin LL.flatten.length) (W : World), Below w.heap.size w W → Calls Tryz.prog 86 #[(smAt LL i).val] W fun e W' => e = .returned (.agg (spV (o i))) ∧ Below W.heap.size W W') :
  Calls Tryz.prog 48 #[.agg #[.slice a2 LL.length c2]] w fun e W' => e = .returned (.agg (spV (sumS o (List.finRange LL.flatten.length)))) ∧ Below w.heap.size w W' := by
 refine (callsIn_wide (n := 9)).1 ?_
 refine callsIn_of_wp_marks Tryz.func48 rfl trivial ?_ rfl
 simp only [Tryz.ntmps48, List.size_toArray, List.length_cons, List.length_nil, Nat.reduceAdd, Nat.reduceSub, Array.replicate_succ, Array.replicate_zero, List.push_toArray, List.append_toArray, List.nil_append, List.cons_append]
 gi_wp2_with (refine ⟨trivial, ?_⟩; gi_at_call 85; refine (simples_in Fence.wide _ trivial rfl _ _ _ _).mono ?_; rintro e w' ⟨rfl, rfl⟩)
 have bS := ((BoxR.new (w.alloc (.cells #[.slice a2 LL.length c2] 48)) 63 #[.int .i64 0, .int .i64 0, .int .i64 0]).alloc (.cells #[.slice a2 LL.length c2] 48)).alloc (.cells #[.slice (some ⟨w.heap.size + 1 + 1, 0, none⟩) 1 1] 23)
 have bL := (BoxR.new ((w.alloc (.cells #[.slice a2 LL.length c2] 48)).alloc (.cells #[.int .i64 0, .int .i64 0, .int .i64 0] 63)) 48 #[.slice a2 LL.length c2]).alloc (.cells #[.slice (some ⟨w.heap.size + 1 + 1, 0, none⟩) 1 1] 23)
 have bB := BoxR.new (((w.alloc (.cells #[.slice a2 LL.length c2] 48)).alloc (.cells #[.int .i64 0, .int .i64 0, .int .i64 0] 63)).alloc (.cells #[.slice a2 LL.length c2] 48)) 23 #[.slice (some ⟨w.heap.size + 1 + 1, 0, none⟩) 1 1]
 have hB0 : Below w.heap.size w ((((w.alloc (.cells #[.slice a2 LL.length c2] 48)).alloc (.cells #[.int .i64 0, .int .i64 0, .int .i64 0] 63)).alloc (.cells #[.slice a2 LL.length c2] 48)).alloc (.cells #[.slice (some ⟨w.heap.size + 1 + 1, 0, none⟩) 1 1] 23)) :=
  ((((Below.refl _ w).alloc (Nat.le_refl _) _).alloc (by simp) _).alloc (by simp; omega) _).alloc (by simp; omega) _
 have hsz : ((((w.alloc (.cells #[.slice a2 LL.length c2] 48)).alloc (.cells #[.int .i64 0, .int .i64 0, .int .i64 0] 63)).alloc (.cells #[.slice a2 LL.length c2] 48)).alloc (.cells #[.slice (some ⟨w.heap.size + 1 + 1, 0, none⟩) 1 1] 23)).heap.size = w.heap.size + 4 := by simp
 simp only [World.size_alloc] at bS bL bB
 obtain ⟨W0, hW0⟩ : ∃ W0, ((((w.alloc (.cells #[.slice a2 LL.length c2] 48)).alloc (.cells #[.int .i64 0, .int .i64 0, .int .i64 0] 63)).alloc (.cells #[.slice a2 LL.length c2] 48)).alloc (.cells #[.slice (some ⟨w.heap.size + 1 + 1, 0, none⟩) 1 1] 23)) = W0 := ⟨_, rfl⟩
 rw [hW0] at bS bL bB hB0 hsz ⊢
 clear hW0
 have hC0 := hC.below hB0
 refine wpIn_rangeFunc_ownH (F := Fence.wide) (n := 9) rfl (by omega) (gf := 114) (lb := #[.pointer (some ⟨w.heap.size + 1 + 1 + 1, 0, none⟩)]) rfl trivial (enters_of Tryz.func114 (by kernel_rfl) rfl)
  (simplesM_stops Fence.wide 8 trivial rfl (by omega) (w.heap.size + 1 + 1 + 1) w.heap.size LL (w.heap.size + 1 + 1) 0 1 a2 c2 b2 o2 W0 (by omega) (by omega) (by omega) hC0 (bB.cell 0) (bL.cell 0)) belowK_t (belowK_b (by omega)) (Below.refl _ _) (fun _ => rfl)
  (fun pre W => BoxR W (w.heap.size + 1) 63 (spV (sumS o pre)) ∧ Below w.heap.size w W)
  (fun _ _ _ => False)
  (OwnFrom.and (Own.from (boxR_own _ _ _) _) (ownFrom_below (Nat.le_refl _) (by omega)))
  (fun _ _ _ _ _ hs _ _ => hs)
  ⟨bS, hB0⟩
  (fun x a' W => ∃ Bx, w.heap.size + 1 < Bx ∧ BoxR W Bx 42 (smAt LL x).cells.toArray ∧ a' = { tmps := #[.agg #[.slice a2 LL.length c2], .pointer (some ⟨w.heap.size, 0, none⟩), .pointer (some ⟨w.heap.size + 1, 0, none⟩), .pointer (some ⟨Bx, 0, none⟩), undef, .agg #[.slice a2 LL.length c2], .slice (some ⟨w.heap.size + 1 + 1, 0, none⟩) 1 1, .func (.func 114) #[] #[.pointer (some ⟨w.heap.size + 1 + 1 + 1, 0, none⟩)], (smAt LL x).val, undef, undef, undef, undef, undef, undef, undef, undef, undef, undef, undef, undef, undef, undef, undef, undef, undef, undef, undef, undef, undef], defers := [] })
  (fun x a' _ X Y row hs hg hr => by obtain ⟨Bx, h1, h2, h3⟩ := hs; exact ⟨Bx, h1, boxR_own Bx 42 (fun (_ : Unit) => (smAt LL x).cells.toArray) () X Y row h2 hg (fun r e => (hr r e).2), h3⟩)
  ?assign ?body ?done ?stop
 case assign =>
  rintro l pre x W K ⟨bS1, hB1⟩ hK
  have hK' := hK
  dsimp only [Sm.val, Sm.cells] at hK'
  dsimp only [Sm.val]
  gi_wp2
  exact hK' _ _ ((KeepsOthers.alloc _ _).from _) ((Below.refl _ W).alloc hB1.size _) ⟨bS1.alloc _, hB1.alloc hB1.size _⟩ ⟨W.heap.size, bS1.lt, BoxR.new W 42 _, rfl⟩
 case body =>
  rintro l pre x a' W hl ⟨r, hr⟩ ⟨bS1, hB1⟩ ⟨Bx, hBx, bX, rfl⟩ hlt
  have x0 : W.cell? ⟨Bx, 0, none⟩ = some (.int .i64 (smAt LL x).kind) := bX.cell 0
  have x1 : W.cell? ⟨Bx, 1, none⟩ = some (.int .i64 (smAt LL x).ns) := bX.cell 1
  have x2 : W.cell? ⟨Bx, 2, none⟩ = some (.string (smAt LL x).pre) := bX.cell 2
  have x3 : W.cell? ⟨Bx, 3, none⟩ = some (.string (smAt LL x).nm) := bX.cell 3
  have x4 : W.cell? ⟨Bx, 4, none⟩ = some (.int .i64 (smAt LL x).op) := bX.cell 4
  have x5 : W.cell? ⟨Bx, 5, none⟩ = some (.string (smAt LL x).tx) := bX.cell 5
  have x6 : W.cell? ⟨Bx, 6, none⟩ = some (.bool (smAt LL x).fold) := bX.cell 6
  have x7 : W.cell? ⟨Bx, 7, none⟩ = some (.int .i64 (smAt LL x).mark) := bX.cell 7
  have x8 : W.cell? ⟨Bx, 8, none⟩ = some (.int .i64 (smAt LL x).a) := bX.cell 8
  have x9 : W.cell? ⟨Bx, 9, none⟩ = some (.int .i64 (smAt LL x).b) := bX.cell 9
  have x10 : W.cell? ⟨Bx, 10, none⟩ = some (.slice (smAt LL x).of_ (smAt LL x).n (smAt LL x).c) := bX.cell 10
  have hO := hone x W hB1
  dsimp only [Sm.val, spV] at hO
  gi_wp2_with (refine ⟨trivial, ?_⟩; gi_at_call 86; refine (CallsIn.inRound l (callsIn_wide.2 hO)).mono ?_; rintro e W2 ⟨rfl, hb2'⟩; have bS2 := bS1.below hb2' bS1.lt; have s0 : W2.cell? ⟨w.heap.size + 1, 0, none⟩ = some (.int .i64 (sumS o pre).1) := bS2.cell 0; have s1 : W2.cell? ⟨w.heap.size + 1, 1, none⟩ = some (.int .i64 (sumS o pre).2.1) := bS2.cell 1; have s2 : W2.cell? ⟨w.heap.size + 1, 2, none⟩ = some (.int .i64 (sumS o pre).2.2) := bS2.cell 2)
  have b4 := BoxR.new W2 63 #[.int .i64 (o x).1, .int .i64 (o x).2.1, .int .i64 (o x).2.2]
  have bS3 := bS2.alloc (.cells #[.int .i64 (o x).1, .int .i64 (o x).2.1, .int .i64 (o x).2.2] 63)
  have hB3 : Below W.heap.size W (W2.alloc (.cells #[.int .i64 (o x).1, .int .i64 (o x).2.1, .int .i64 (o x).2.2] 63)) := hb2'.alloc hb2'.size _
  have hne : w.heap.size + 1 < W2.heap.size := Nat.lt_of_lt_of_le bS1.lt hb2'.size
  generalize W2.heap.size = B4 at *
  obtain ⟨W3, hW3⟩ : ∃ W3, W2.alloc (.cells #[.int .i64 (o x).1, .int .i64 (o x).2.1, .int .i64 (o x).2.2] 63) = W3 := ⟨_, rfl⟩
  rw [hW3] at b4 bS3 hB3 ⊢
  clear hW3 s0 s1 s2 x0 x1 x2 x3 x4 x5 x6 x7 x8 x9 x10 hO bX bS2 hb2'
  refine reg4_in (n₀ := w.heap.size) (B1 := w.heap.size + 1) (B4 := B4) ⟨Nat.le_succ _, by omega⟩ rfl rfl rfl bS3 b4 (fun a' w' hS hk hb => ?_)
  refine ⟨?_, (hB3.mono hB1.size).trans hb, ?_, hB1.trans ((hB3.mono hB1.size).trans hb)⟩
  ·exact ((keeps_below hB3).trans hk).from _
  ·rw [sumS_snoc]
   exact hS
 case done =>
  rintro D ys W hD rfl ⟨bS1, hB1⟩ hK
  have hDn : D ≠ w.heap.size + 1 := by omega
  have s0 : W.cell? ⟨w.heap.size + 1, 0, none⟩ = some (.int .i64 (sumS o (List.finRange LL.flatten.length)).1) := bS1.cell 0
  have s1 : W.cell? ⟨w.heap.size + 1, 1, none⟩ = some (.int .i64 (sumS o (List.finRange LL.flatten.length)).2.1) := bS1.cell 1
  have s2 : W.cell? ⟨w.heap.size + 1, 2, none⟩ = some (.int .i64 (sumS o (List.finRange LL.flatten.length)).2.2) := bS1.cell 2
  have t0 := bS1.frozen 0
  have t1 := bS1.frozen 1
  have t2 := bS1.frozen 2
  obtain ⟨S, hSS⟩ : ∃ S, Hid1 (S = sumS o (List.finRange LL.flatten.length)) := ⟨_, rfl⟩
  rw [← (show S = _ from hSS)] at s0 s1 s2 bS1
  gi_wp2
  have bW := ((bS1.set 0 (.int .i64 S.1)).set 1 (.int .i64 S.2.1)).set 2 (.int .i64 S.2.2)
  have hBW := ((hB1.setCell (p := ⟨w.heap.size + 1, 0, none⟩) (Nat.le_succ _) (.int .i64 S.1)).setCell (p := ⟨w.heap.size + 1, 1, none⟩) (Nat.le_succ _) (.int .i64 S.2.1)).setCell (p := ⟨w.heap.size + 1, 2, none⟩) (Nat.le_succ _) (.int .i64 S.2.2)
  have hKW : (((W.setCell ⟨w.heap.size + 1, 0, none⟩ (.int .i64 S.1)).setCell ⟨w.heap.size + 1, 1, none⟩ (.int .i64 S.2.1)).setCell ⟨w.heap.size + 1, 2, none⟩ (.int .i64 S.2.2)).heap[D]? = some (.deferred (some [])) := by
   simp [World.setCell, Array.getElem?_modify, Ne.symm hDn, hK]
  generalize ((W.setCell ⟨w.heap.size + 1, 0, none⟩ (.int .i64 S.1)).setCell ⟨w.heap.size + 1, 1, none⟩ (.int .i64 S.2.1)).setCell ⟨w.heap.size + 1, 2, none⟩ (.int .i64 S.2.2) = W9 at *
  refine ⟨by simp, .inl ⟨_, _, rfl, run_takeDeferred hKW, ?_⟩⟩
  have bP : BoxR (W9.putObj D (.deferred none)) (w.heap.size + 1) 63 (spV S) := (show BoxR W9 _ 63 (spV S) from bW).kept (grownBy_putObj' _ _ _) (fun e => hDn (Option.some.inj e).symm)
  have p0 : (W9.putObj D (.deferred none)).cell? ⟨w.heap.size + 1, 0, none⟩ = some (.int .i64 S.1) := bP.cell 0
  have p1 : (W9.putObj D (.deferred none)).cell? ⟨w.heap.size + 1, 1, none⟩ = some (.int .i64 S.2.1) := bP.cell 1
  have p2 : (W9.putObj D (.deferred none)).cell? ⟨w.heap.size + 1, 2, none⟩ = some (.int .i64 S.2.2) := bP.cell 2
  refine ⟨.agg (spV S), ?_, by rw [show S = _ from hSS], hBW.trans (belowK_b (w := w) (Nat.le_refl _) W9 D _ _ (by omega) hKW rfl rfl)⟩
  generalize W9.putObj D (.deferred none) = W10 at *
  unfold spV
  simp [results, go_sem, p0, p1, p2, Tryz.f48]
 case stop =>
  rintro D c pre W _ _ h _
  exact h.elim
end Go.Proofs.YtcogfddcdpgpkaaGreatDoor
set_option maxRecDepth 100000
namespace Go.Av
open Go.Proofs Go.RowKit Go.Proofs.YtcogfddcdpgpkaaGreatDoor
theorem list_form0 {F : Nat → Nat → Prop} {w : World} {v : Value} {es : List D} {sz : Nat} (hd : Den0 F w v (.list es)) (hs : ∀ e ∈ es, (dcells e).length = sz) :
  ∃ a c b off, v = .slice a es.length c ∧ es.length ≤ c ∧ (es ≠ [] → a = some ⟨b, off, none⟩) ∧ ∀ (i j : Nat) (x : D) (y : D), es[i]? = some x → (dcells x)[j]? = some y → ∃ u, w.cell? ⟨b, off + (i * sz + j), none⟩ = some u ∧ Den0 F w u y ∧ u.oneCell' = true := by
 by_cases h : es = []
 ·subst h
  cases hd with
  | list a n c sz' es vs h1 h2 h3 h4 h5 h6 h7 =>
   subst h1
   exact ⟨a, c, 0, 0, rfl, h2, fun h => absurd rfl h, fun i j x y hi => by simp at hi⟩
 ·obtain ⟨b, off, c, h1, h2, h3⟩ := list_form hd hs h
  exact ⟨_, c, b, off, h1, h2, fun _ => rfl, h3⟩
theorem list_choice {α β : Type} {P : Nat → α → β → Prop} : ∀ (l : List α), (∀ (i : Nat) x, l[i]? = some x → ∃ y, P i x y) → ∃ l' : List β, l'.length = l.length ∧ ∀ (i : Nat) x y, l[i]? = some x → l'[i]? = some y → P i x y
 | [], _ => ⟨[], rfl, fun i x y h => by simp at h⟩
 | x :: r, h => by
  obtain ⟨y, hy⟩ := h 0 x rfl
  obtain ⟨l', h1, h2⟩ := list_choice (P := fun i => P (i + 1)) r (fun i z hz => h (i + 1) z (by simpa using hz))
  refine ⟨y :: l', by simp [h1], fun i z u hz hu => ?_⟩
  cases i with
  | zero => simp at hz hu; subst hz hu; exact hy
  | succ i => exact h2 i z u (by simpa using hz) (by simpa using hu)
theorem flat2 {α β : Type} {R : α → β → Prop} : ∀ (LL : List (List α)) (XX : List (List β)), LL.length = XX.length →
  (∀ (i : Nat) r x, LL[i]? = some r → XX[i]? = some x → r.length = x.length ∧ ∀ (j : Nat) s d, r[j]? = some s → x[j]? = some d → R s d) →
  LL.flatten.length = XX.flatten.length ∧ ∀ (i : Nat) s d, LL.flatten[i]? = some s → XX.flatten[i]? = some d → R s d
 | [], [], _, _ => ⟨rfl, fun i s d h => by simp at h⟩
 | [], _ :: _, h, _ => by simp at h
 | _ :: _, [], h, _ => by simp at h
 | r :: LL, x :: XX, hl, h => by
  obtain ⟨h1, h2⟩ := h 0 r x rfl rfl
  obtain ⟨h3, h4⟩ := flat2 LL XX (by simpa using hl) (fun i r x hr hx => h (i + 1) r x (by simpa using hr) (by simpa using hx))
  refine ⟨by simp only [List.flatten_cons, List.length_append]; omega, fun i s d hs hd => ?_⟩
  rw [List.flatten_cons] at hs hd
  by_cases hi : i < r.length
  ·rw [List.getElem?_append_left hi] at hs
   rw [List.getElem?_append_left (by omega)] at hd
   exact h2 i s d hs hd
  ·rw [List.getElem?_append_right (by omega)] at hs
   rw [List.getElem?_append_right (by omega)] at hd
   rw [← h1] at hd
   exact h4 _ s d hs hd
abbrev T3 := Int × Int × Int
def add3 (s x : T3) : T3 := (IntKind.i64.wrap (s.1 + x.1), IntKind.i64.wrap (s.2.1 + x.2.1), IntKind.i64.wrap (s.2.2 + x.2.2))
def sumL (o : D → T3) (ss : List D) : T3 := ss.foldl (fun s d => add3 s (o d)) (0, 0, 0)
theorem wrap_kit (n : Int) : RowKit.wrap64 n = IntKind.i64.wrap n := by
 have e : IntKind.i64.wrap n = if n % 18446744073709551616 ≥ 9223372036854775808 then n % 18446744073709551616 - 18446744073709551616 else n % 18446744073709551616 := by
  show (if (true && decide (n % 18446744073709551616 ≥ 9223372036854775808)) = true then n % 18446744073709551616 - 18446744073709551616 else n % 18446744073709551616) = _
  simp only [Bool.true_and, decide_eq_true_eq]
 rw [e]
 unfold RowKit.wrap64
 split <;> omega
theorem sum_fin (o : D → T3) (ds : List D) {T : Nat} (h : T = ds.length) : sumS (fun i : Fin T => o (ds.getD i.1 .bad)) (List.finRange T) = sumL o ds := by
 subst h
 unfold sumS sumL
 have e : ds = (List.finRange ds.length).map (fun i => ds.getD i.1 .bad) := by
  refine List.ext_getElem? fun i => ?_
  by_cases hi : i < ds.length
  ·simp [hi, List.getD]
  ·simp [hi]
 conv => rhs; rw [e]
 rw [List.foldl_map]
 unfold add3
 simp only [wrap_kit]
theorem spec_denM (w : World) (v : Value) (X : List D) (hd : Den0 (old w) w v (cxD X)) (hl : X.length ≤ 1000000) (hX : ∀ x ∈ X, x = cpD (cpC x) (cpL x) ∧ (cpL x).length ≤ 1000000 ∧ ∀ s ∈ cpL x, isSm s = true) (o : D → T3)
  (hone : ∀ x ∈ X, ∀ s ∈ cpL x, ∀ (W : World) (u : Value), Below w.heap.size w W → Den0 (old W) W u s → Calls Tryz.prog 86 #[u] W fun e W' => e = .returned (.agg (spV (o s))) ∧ Below W.heap.size W W') :
  Calls Tryz.prog 48 #[v] w fun e W' => e = .returned (.agg (spV (sumL o (X.flatMap cpL)))) ∧ Below w.heap.size w W' := by
 unfold cxD at hd
 cases hd with
 | agg vs cs h1 h2 h3 =>
  match vs, h1 with
  | [L], _ =>
   have dL := h3 0 L _ rfl rfl
   obtain ⟨a2, c2, b2, o2, rfl, hc2, had, hcell⟩ := list_form0 (sz := 2) dL (fun x hx => by rw [(hX x hx).1]; rfl)
   have hrow : ∀ (i : Nat) x, X[i]? = some x → ∃ row : List Sm, (∃ comb a3 c3 b3 o3, w.cell? ⟨b2, o2 + i * 2, none⟩ = some (.int .i64 comb) ∧ w.cell? ⟨b2, o2 + i * 2 + 1, none⟩ = some (.slice a3 row.length c3) ∧ row.length ≤ c3 ∧ row.length ≤ 1000000 ∧
     (row ≠ [] → a3 = some ⟨b3, o3, none⟩ ∧ b3 < w.heap.size) ∧ ∀ (j : Nat) (s : Sm), row[j]? = some s → ∀ t, t < 11 → w.cell? ⟨b3, o3 + j * 11 + t, none⟩ = s.cells[t]?) ∧ row.length = (cpL x).length ∧ ∀ (j : Nat) s d, row[j]? = some s → (cpL x)[j]? = some d → Den0 (old w) w s.val d := by
    intro i x hx
    obtain ⟨e, hlx, hsx⟩ := hX x (List.mem_of_getElem? hx)
    obtain ⟨u0, e0, d0, _⟩ := hcell i 0 x (.int .i64 (cpC x)) hx (by rw [e]; rfl)
    obtain ⟨u1, e1, d1, _⟩ := hcell i 1 x (.list (cpL x)) hx (by rw [e]; rfl)
    cases d0
    obtain ⟨a3, c3, b3, o3, rfl, hc3, had3, hcell3⟩ := list_form0 (sz := 11) d1 (fun s h => isSm_len (hsx s h))
    have hS : ∀ (j : Nat) d, (cpL x)[j]? = some d → ∃ s : Sm, (∀ t, t < 11 → w.cell? ⟨b3, o3 + j * 11 + t, none⟩ = s.cells[t]?) ∧ Den0 (old w) w s.val d := fun j d hj =>
     sm_of (hsx d (List.mem_of_getElem? hj)) (fun t y hy => by
      have := hcell3 j t d y hj hy
      rw [← Nat.add_assoc] at this
      exact this)
    obtain ⟨row, hr1, hr2⟩ := list_choice (P := fun j d s => (∀ t, t < 11 → w.cell? ⟨b3, o3 + j * 11 + t, none⟩ = (Sm.cells s)[t]?) ∧ Den0 (old w) w (Sm.val s) d) (cpL x) hS
    have hat : ∀ (j : Nat) s, row[j]? = some s → ∃ d, (cpL x)[j]? = some d := fun j s hs => ⟨_, List.getElem?_eq_getElem (by rw [← hr1]; exact (List.getElem?_eq_some_iff.1 hs).1)⟩
    refine ⟨row, ⟨cpC x, a3, c3, b3, o3, ?_, ?_, by omega, by omega, fun hne => ?_, fun j s hs => ?_⟩, hr1, fun j s d hs hd => (hr2 j d s hd hs).2⟩
    ·rw [Nat.add_zero] at e0; exact e0
    ·rw [← Nat.add_assoc, ← hr1] at e1; exact e1
    ·have hne' : cpL x ≠ [] := by rintro h; rw [h] at hr1; exact hne (List.eq_nil_of_length_eq_zero hr1)
     refine ⟨had3 hne', ?_⟩
     obtain ⟨d, r, hdr⟩ := List.exists_cons_of_ne_nil hne'
     obtain ⟨s, hs, _⟩ := hS 0 d (by rw [hdr]; rfl)
     exact cell_old ((hs 0 (by decide)).trans rfl)
    ·obtain ⟨d, hd⟩ := hat j s hs
     exact (hr2 j d s hd hs).1
   obtain ⟨LL, hL1, hL2⟩ := list_choice X hrow
   have hLX : ∀ (i : Nat) r, LL[i]? = some r → ∃ x, X[i]? = some x := fun i r hr => ⟨_, List.getElem?_eq_getElem (by rw [← hL1]; exact (List.getElem?_eq_some_iff.1 hr).1)⟩
   have hC : Cpx LL w.heap.size w a2 c2 b2 o2 := by
    refine ⟨by omega, by omega, fun hne => ?_, fun i row hr => ?_⟩
    ·have hne' : X ≠ [] := by rintro h; rw [h] at hL1; exact hne (List.eq_nil_of_length_eq_zero hL1)
     refine ⟨had hne', ?_⟩
     obtain ⟨x, r, hxr⟩ := List.exists_cons_of_ne_nil hne'
     obtain ⟨row, ⟨comb, _, _, _, _, hc, _⟩, _⟩ := hrow 0 x (by rw [hxr]; rfl)
     exact cell_old hc
    ·obtain ⟨x, hx⟩ := hLX i row hr
     exact (hL2 i x row hx hr).1
   have hXX : X.flatMap cpL = (X.map cpL).flatten := List.flatMap_def ..
   obtain ⟨hT, hR⟩ := flat2 (R := fun s d => Den0 (old w) w (Sm.val s) d) LL (X.map cpL) (by rw [List.length_map]; exact hL1) (fun i r x hr hx => by
    obtain ⟨y, hy⟩ := hLX i r hr
    rw [List.getElem?_map, hy] at hx
    simp only [Option.map_some, Option.some.injEq] at hx
    subst hx
    obtain ⟨_, g1, g2⟩ := hL2 i y r hy hr
    exact ⟨g1, g2⟩)
   rw [← hXX] at hT hR
   have hk := spec_anyM w LL a2 c2 b2 o2 hC (fun i => o ((X.flatMap cpL).getD i.1 .bad)) (fun i W hb => by
    have hi : i.1 < (X.flatMap cpL).length := by rw [← hT]; exact i.2
    have hd : (X.flatMap cpL)[i.1]? = some (X.flatMap cpL)[i.1] := List.getElem?_eq_getElem hi
    have hg : (X.flatMap cpL).getD i.1 .bad = (X.flatMap cpL)[i.1] := by unfold List.getD; rw [hd]; rfl
    rw [hg]
    obtain ⟨x, hx1, hx2⟩ := List.mem_flatMap.1 (List.getElem_mem hi)
    have hden := hR i.1 (smAt LL i) _ (List.getElem?_eq_getElem i.2) hd
    exact hone x hx1 _ hx2 W _ hb (hden.ext (ext_below hb)))
   rw [sum_fin o (X.flatMap cpL) hT] at hk
   rw [← hL1]
   exact hk
end Go.Av
namespace Go.Av
abbrev Sp3 := Int × Int × Int
def lessT (x y : Sp3) : Bool := if x.1 != y.1 then decide (x.1 < y.1) else if x.2.1 != y.2.1 then decide (x.2.1 < y.2.1) else decide (x.2.2 < y.2.2)
def mx (x y : Sp3) : Sp3 := if lessT x y = true then y else x
def bestT (l : List Sp3) (s : Sp3) : Sp3 := l.foldl mx s
def specV (sel : D → Bool) (sp : D → Sp3) (l : List D) : Sp3 × Bool := (bestT ((l.filter sel).map sp) (0, 0, 0), l.any sel)
end Go.Av
set_option maxRecDepth 10000
namespace Go.Av.Yq
open Go.Proofs Go.Av
theorem ty63 : aggOf Tryz.prog 63 = some true ∧ sizeT Tryz.prog 63 = some 3 := ⟨by kernel_rfl, by kernel_rfl⟩
theorem dp63 (x0 x1 x2 : D) : dpart Tryz.prog 63 [x0, x1, x2] 0 = some (.agg [x0, x1, x2]) := by simp only [dpart, ty63.1, ty63.2]; rfl
theorem fa63_0 (d : D) (off : Nat) : dfieldAddr Tryz.prog 63 (.fix d off) 0 = some (.fix d (off + 0)) := by kernel_rfl
theorem fp63_0 (k g off : Nat) : dfieldAddr Tryz.prog 63 (.ptr k g off) 0 = some (.ptr k g (off + 0)) := by kernel_rfl
theorem fa63_1 (d : D) (off : Nat) : dfieldAddr Tryz.prog 63 (.fix d off) 1 = some (.fix d (off + 1)) := by kernel_rfl
theorem fp63_1 (k g off : Nat) : dfieldAddr Tryz.prog 63 (.ptr k g off) 1 = some (.ptr k g (off + 1)) := by kernel_rfl
theorem fa63_2 (d : D) (off : Nat) : dfieldAddr Tryz.prog 63 (.fix d off) 2 = some (.fix d (off + 2)) := by kernel_rfl
theorem fp63_2 (k g off : Nat) : dfieldAddr Tryz.prog 63 (.ptr k g off) 2 = some (.ptr k g (off + 2)) := by kernel_rfl
theorem ty54 : elemT Tryz.prog 54 = some 51 ∧ Tryz.prog.underlying 54 = some (.slice 51) ∧ aggOf Tryz.prog 54 = some false := ⟨by kernel_rfl, by kernel_rfl, by kernel_rfl⟩
theorem dp54 (cs : List D) (off : Nat) : dpart Tryz.prog 54 cs off = cs[off]? := by simp only [dpart, ty54.2.2]
theorem ia54 (es : List D) (ki : IntKind) (i : Int) : dindexAddr Tryz.prog 54 (.list es) (.int ki i) = if 0 ≤ i ∧ i < es.length then (if (dcells (es.getD i.toNat .bad)).length = 2 then some (.fix (es.getD i.toNat .bad) 0) else none) else none := by
 simp only [dindexAddr, ty54.1, Ys.ty51.2]
theorem len54 (l : List D) : dlen Tryz.prog #[54] (.list l) = some (.int .i64 l.length) := by kernel_rfl
theorem bd63_0 : dbuild Tryz.prog 63 [] = some (.agg [.int .i64 0, .int .i64 0, .int .i64 0]) := by kernel_rfl
theorem bd63_3 (a b c : Int) : dbuild Tryz.prog 63 [(0, .int .i64 a), (1, .int .i64 b), (2, .int .i64 c)] = some (.agg [.int .i64 a, .int .i64 b, .int .i64 c]) := by kernel_rfl
theorem bs81_3 (a b c : Int) : dbuildSlice Tryz.prog 81 3 [(0, .int .i64 a), (1, .int .i64 b), (2, .int .i64 c)] = some (.list [.int .i64 a, .int .i64 b, .int .i64 c]) := by kernel_rfl
theorem bs54_1 (n : Int) (s : List UInt8) : dbuildSlice Tryz.prog 54 1 [(0, .agg [.int .i64 n, .str s])] = some (.list [.agg [.int .i64 n, .str s]]) := by kernel_rfl
theorem bs54_0 : dbuildSlice Tryz.prog 54 0 [] = some (.list []) := by kernel_rfl
theorem zrm63 : zrooms Tryz.prog 63 = [.no, .no, .no] := by kernel_rfl
theorem zrm48 : zrooms Tryz.prog 48 = [.full] := by kernel_rfl
theorem bs23_0 : dbuildSlice Tryz.prog 23 0 [] = some (.list []) := by kernel_rfl
theorem eq63 (a b c a' b' c' : Int) : dStructEq Tryz.prog 63 [.int .i64 a, .int .i64 b, .int .i64 c] [.int .i64 a', .int .i64 b', .int .i64 c'] = some (a == a' && (b == b' && c == c')) := by
 have h : dStructEq Tryz.prog 63 [.int .i64 a, .int .i64 b, .int .i64 c] [.int .i64 a', .int .i64 b', .int .i64 c'] = (match some (a == a') with | some true => (match some (b == b') with | some true => (match some (c == c') with | some true => some true | r => r) | r => r) | r => r) := by kernel_rfl
 rw [h]
 cases (a == a') <;> cases (b == b') <;> cases (c == c') <;> rfl
theorem eq51 (a a' : Int) (s s' : List UInt8) : dStructEq Tryz.prog 51 [.int .i64 a, .str s] [.int .i64 a', .str s'] = some (a == a' && s == s') := by
 have h : dStructEq Tryz.prog 51 [.int .i64 a, .str s] [.int .i64 a', .str s'] = (match some (a == a') with | some true => (match some (s == s') with | some true => some true | r => r) | r => r) := by kernel_rfl
 rw [h]
 cases (a == a') <;> cases (s == s') <;> rfl
theorem ap23 (es fs : List D) (r : List Room) : dappend Tryz.prog #[23, 23] (.list es) (.list fs) r = if lenOk (es.length + fs.length) 24 = true ∧ szOk 1 fs = true ∧ szOk 1 es = true ∧ (r = [.full] ∨ r = [.own 48] ∨ r = [.fresh]) then some (.list (es ++ fs), 48) else none := by
 have : (Tryz.prog.info? 48).map (fun i => (infoOk i, i.size, i.bytes)) = some (true, 1, 24) := by kernel_rfl
 obtain ⟨i, hi, h⟩ := Option.map_eq_some_iff.1 this
 injection h with h1 h2
 injection h2 with h2 h3
 simp only [dappend, Ys.ty23.1, hi, h1, h2, h3, if_true, true_and]
theorem ap54 (es fs : List D) (r : List Room) : dappend Tryz.prog #[54, 54] (.list es) (.list fs) r = if lenOk (es.length + fs.length) 24 = true ∧ szOk 2 fs = true ∧ szOk 2 es = true ∧ (r = [.full] ∨ r = [.own 51] ∨ r = [.fresh]) then some (.list (es ++ fs), 51) else none := by
 have : (Tryz.prog.info? 51).map (fun i => (infoOk i, i.size, i.bytes)) = some (true, 2, 24) := by kernel_rfl
 obtain ⟨i, hi, h⟩ := Option.map_eq_some_iff.1 this
 injection h with h1 h2
 injection h2 with h2 h3
 simp only [dappend, ty54.1, hi, h1, h2, h3, if_true, true_and]
theorem AVQ : type_of% (An (An (An (An (@ty63) (An (@dp63) (@fa63_0))) (An (@fp63_0) (An (@fa63_1) (@fp63_1)))) (An (An (@fa63_2) (An (@fp63_2) (@ty54))) (An (@dp54) (An (@ia54) (@len54))))) (An (An (An (@bd63_0) (An (@bd63_3) (@bs81_3))) (An (@bs54_1) (An (@bs54_0) (@zrm63)))) (An (An (@zrm48) (An (@bs23_0) (@eq63))) (An (@eq51) (An (@ap23) (@ap54)))))) := An (An (An (An (@ty63) (An (@dp63) (@fa63_0))) (An (@fp63_0) (An (@fa63_1) (@fp63_1)))) (An (An (@fa63_2) (An (@fp63_2) (@ty54))) (An (@dp54) (An (@ia54) (@len54))))) (An (An (An (@bd63_0) (An (@bd63_3) (@bs81_3))) (An (@bs54_1) (An (@bs54_0) (@zrm63)))) (An (An (@zrm48) (An (@bs23_0) (@eq63))) (An (@eq51) (An (@ap23) (@ap54)))))
end Go.Av.Yq
namespace Go.Av
theorem Wq {p : Prop} (h : p := by repeat' (first|simp only [*, AVB, AVY, Yq.AVQ, ↓reduceIte, Nat.reduceEqDiff, Nat.reduceLT, Nat.reduceLeDiff, reduceCtorEq, Nat.reduceBEq, String.reduceBEq, Nat.reduceAdd, Nat.reduceSub, Nat.reduceMul, Int.reduceLE, Int.reduceLT, Int.reduceToNat, Int.reduceBEq, Int.reduceBNe, List.zipWith, dIntBin]|refine drW_intro (by kernel_rfl) ?_|refine gw_intro (fun h => ?_) (fun h => ?_) <;> try simp only [AVH] at h)) : p := h
theorem Gq {p q : Prop} (k : q) (h : p = q := by simp only [*, AVB, AVY, Yq.AVQ, ↓reduceIte, Nat.reduceEqDiff, Nat.reduceLT, Nat.reduceLeDiff, reduceCtorEq, Nat.reduceBEq, String.reduceBEq, Nat.reduceAdd, Nat.reduceSub, Nat.reduceMul, Int.reduceLE, Int.reduceLT, Int.reduceToNat, Int.reduceBEq, Int.reduceBNe, List.zipWith, dIntBin]; rfl) : p := by rw [h]; exact k
theorem Iq {p : Prop} (h : p := by first | (simp only [*, AVB, AVY, Yq.AVQ, ↓reduceIte, Nat.reduceEqDiff, Nat.reduceLT, Nat.reduceLeDiff, reduceCtorEq, Nat.reduceBEq, String.reduceBEq, Nat.reduceAdd, Nat.reduceSub, Nat.reduceMul, Int.reduceLE, Int.reduceLT, Int.reduceToNat, Int.reduceBEq, Int.reduceBNe, List.zipWith, dIntBin]; done) | (simp only [*, AVB, AVY, Yq.AVQ, ↓reduceIte, Nat.reduceEqDiff, Nat.reduceLT, Nat.reduceLeDiff, reduceCtorEq, Nat.reduceBEq, String.reduceBEq, Nat.reduceAdd, Nat.reduceSub, Nat.reduceMul, Int.reduceLE, Int.reduceLT, Int.reduceToNat, Int.reduceBEq, Int.reduceBNe, List.zipWith, dIntBin]; rfl) | rfl) : p := h
theorem Zq {p : Prop} (h : p := by simp only [slotI, *, AVB, AVY, Yq.AVQ, ↓reduceIte, Nat.reduceEqDiff, Nat.reduceLT, Nat.reduceLeDiff, reduceCtorEq, Nat.reduceBEq, String.reduceBEq, Nat.reduceAdd, Nat.reduceSub, Nat.reduceMul, Int.reduceLE, Int.reduceLT, Int.reduceToNat, Int.reduceBEq, Int.reduceBNe, List.zipWith, dIntBin]; omega) : p := h
theorem cWq {P : Program} {ext : FuncId → List D → List Bx → Option (D × List Room × List Bx)} (m r : Nat) {f : FuncId} {fn : Func} {c : Code} {args : List D} {pbs : List Bx} {R : D × List Room × List Bx} (hf : P.funcs[f]? = some fn)
  (hx : ext f args pbs = none := by exact rfl) (hb : fn.body = some c := by exact rfl) (hm : max args.length fn.ntmps = m := by exact rfl) (hres : resTmps fn = [r] := by exact rfl) (hrs : fn.results.toList = [.tmp r] := by exact rfl) (hn : noTwice [r] = true := by exact rfl) (h : goX P ext m [r] (endQ P [.tmp r] pbs.length R) [.code c] .normal (entry args pbs) := by repeat' (first|simp only [*, AVB, AVY, Yq.AVQ, ↓reduceIte, Nat.reduceEqDiff, Nat.reduceLT, Nat.reduceLeDiff, reduceCtorEq, Nat.reduceBEq, String.reduceBEq, Nat.reduceAdd, Nat.reduceSub, Nat.reduceMul, Int.reduceLE, Int.reduceLT, Int.reduceToNat, Int.reduceBEq, Int.reduceBNe, List.zipWith, dIntBin]|refine drW_intro (by kernel_rfl) ?_|refine gw_intro (fun h => ?_) (fun h => ?_) <;> try simp only [AVH] at h)) : callL P ext f args pbs = some R :=
  callK hx hf hb hm hres hrs hn h
end Go.Av
set_option maxRecDepth 100000
namespace Go.Av
open Go.Proofs
variable [Rk] {chk : List D → Bool}
def cmpF (a b : Int) : Int := if a < b then -1 else if a > b then 1 else 0
theorem nan_L (a : Int) : callL Tryz.prog (ext11b chk) 116 [.int .i64 a] [] = some (.bool false, [.no], []) := by
 have h : (a != a) = false := by simp
 exact cWq 6 2 Tryz.func116
theorem cmp_L (a b : Int) : callL Tryz.prog (ext11b chk) 88 [.int .i64 a, .int .i64 b] [] = some (.int .i64 (cmpF a b), [.no], []) := by
 have h1 := nan_L (chk := chk) a
 have h2 := nan_L (chk := chk) b
 refine cK 20 4 Tryz.func88 ?_
 unfold cmpF
 by_cases c1 : a < b
 ·exact Wq
 ·by_cases c2 : a > b
  ·exact Wq
  ·exact Wq
def orF : List Int → Int
 | [] => 0
 | z :: r => if z = 0 then orF r else z
theorem i64_at (zs : List Int) (i : Nat) (h : i < zs.length) : (zs.map (D.int .i64)).getD i .bad = .int .i64 (zs.getD i 0) := by simp [List.getD, h]
theorem orF_at (zs : List Int) (i : Nat) (h : i < zs.length) : orF (zs.drop i) = if zs.getD i 0 = 0 then orF (zs.drop (i + 1)) else zs.getD i 0 := by
 have e : zs.getD i 0 = zs[i] := by simp [List.getD, h]
 rw [List.drop_eq_getElem_cons h, orF, e]
theorem lenI (zs : List Int) : ((zs.map (D.int .i64)).length : Int) = zs.length := by simp
set_option maxHeartbeats 4000000 in
theorem or_L (zs : List Int) (hl : zs.length ≤ 1000000) : callL Tryz.prog (ext11b chk) 87 [.list (zs.map (D.int .i64))] [] = some (.int .i64 (orF zs), [.no], []) := by
 have lN := lenI zs
 refine cK 18 2 Tryz.func87 ?_
 have HL := Hd.mk hl
 clear hl
 obtain ⟨R, hR⟩ : ∃ R, Hd (R = orF zs) := ⟨_, rfl⟩
 rw [← (show R = orF zs from hR)]
 refine Gq ?_
 refine loopH (fun st => ∃ i : Nat, i ≤ zs.length ∧ st.slot 6 = .list (zs.map (D.int .i64)) ∧ st.slot 7 = .int .i64 zs.length ∧ st.slot 8 = .int .i64 i ∧ st.slot 3 = .int .i64 0 ∧ st.room 3 = [] ∧ Hd (R = orF (zs.drop i))) (fun st => zs.length - slotI st 8) ?_ ?_
 ·exact ⟨0, Nat.zero_le _, Iq, Iq, Iq, Iq, Iq, hR⟩
 ·rintro st K ⟨i, hi, g6, g7, g8, g3, gr, hO⟩ hn hx hr
  have hl : zs.length ≤ 1000000 := HL
  by_cases h : i < zs.length
  ·have g1 : (i : Int) < zs.length := by omega
   have hw := wrapS i (by omega)
   have hat := i64_at zs i h
   have hO' : R = orF (zs.drop i) := hO
   rw [orF_at zs i h] at hO'
   by_cases hz : zs.getD i 0 = 0
   ·rw [if_pos hz] at hO'
    have hb : ((0 : Int) != 0) = false := rfl
    rw [hz] at hat
    have HO := Hd.mk hO'
    clear hO hO' hx hr hl hz
    refine Gq ?_
    exact hn _ ⟨i + 1, h, L, L, L, L, L, HO⟩ Zq
   ·rw [if_neg hz] at hO'
    have hb : (zs.getD i 0 != 0) = true := by simpa using hz
    subst hO'
    clear hO hn hx hl hz hR
    generalize zs.getD i 0 = c at *
    refine Gq ?_
    exact hr _ Wq
  ·have g1 : ¬ (i : Int) < zs.length := by omega
   have e : zs.drop i = [] := List.drop_eq_nil_of_le (by omega)
   have hO' : R = orF (zs.drop i) := hO
   rw [e] at hO'
   have hR0 : R = 0 := hO'
   subst hR0
   clear hO hO' hn hr hl hR e
   refine Gq ?_
   exact hx _ _ Wq
def lessF (a1 a2 a3 b1 b2 b3 : Int) : Bool := if a1 ≠ b1 then decide (a1 < b1) else if a2 ≠ b2 then decide (a2 < b2) else decide (a3 < b3)
theorem less_or (a1 a2 a3 b1 b2 b3 : Int) : decide (orF [cmpF a1 b1, cmpF a2 b2, cmpF a3 b3] < 0) = lessF a1 a2 a3 b1 b2 b3 := by
 have h : ∀ a b : Int, (cmpF a b = 0 ↔ a = b) ∧ (cmpF a b < 0 ↔ a < b) := by
  intro a b
  unfold cmpF
  split
  ·omega
  ·split <;> omega
 unfold lessF orF orF orF orF
 have h1 := h a1 b1
 have h2 := h a2 b2
 have h3 := h a3 b3
 by_cases c1 : a1 = b1
 ·rw [if_pos (h1.1.2 c1), if_neg (show ¬ (a1 ≠ b1) from fun hh => hh c1)]
  by_cases c2 : a2 = b2
  ·rw [if_pos (h2.1.2 c2), if_neg (show ¬ (a2 ≠ b2) from fun hh => hh c2)]
   by_cases c3 : a3 = b3
   ·rw [if_pos (h3.1.2 c3)]
    have c4 : ¬ a3 < b3 := by omega
    rw [decide_eq_false c4]
    rfl
   ·rw [if_neg (fun hh => c3 (h3.1.1 hh))]
    exact decide_eq_decide.2 h3.2
  ·rw [if_neg (fun hh => c2 (h2.1.1 hh)), if_pos c2]
   exact decide_eq_decide.2 h2.2
 ·rw [if_neg (fun hh => c1 (h1.1.1 hh)), if_pos c1]
  exact decide_eq_decide.2 h1.2
set_option maxHeartbeats 4000000 in
theorem less_L (a1 a2 a3 b1 b2 b3 : Int) : callL Tryz.prog (ext11b chk) 49 [.agg [.int .i64 a1, .int .i64 a2, .int .i64 a3], .agg [.int .i64 b1, .int .i64 b2, .int .i64 b3]] [] = some (.bool (lessF a1 a2 a3 b1 b2 b3), [.no], []) := by
 have h1 := cmp_L (chk := chk) a1 b1
 have h2 := cmp_L (chk := chk) a2 b2
 have h3 := cmp_L (chk := chk) a3 b3
 have h4 := or_L (chk := chk) [cmpF a1 b1, cmpF a2 b2, cmpF a3 b3] (by simp)
 simp only [List.map_cons, List.map_nil] at h4
 rw [← less_or]
 generalize orF [cmpF a1 b1, cmpF a2 b2, cmpF a3 b3] = k at *
 generalize cmpF a1 b1 = k1 at *
 generalize cmpF a2 b2 = k2 at *
 generalize cmpF a3 b3 = k3 at *
 refine cK 23 4 Tryz.func49 ?_
 by_cases hk : k < 0
 ·exact Wq
 ·exact Wq
set_option maxHeartbeats 4000000 in
theorem rless_L (a1 a2 a3 b1 b2 b3 : Int) : callL Tryz.prog (ext11b chk) 24 [.agg [.int .i64 a1, .int .i64 a2, .int .i64 a3], .agg [.int .i64 b1, .int .i64 b2, .int .i64 b3]] [] = some (.bool (lessF a1 a2 a3 b1 b2 b3), [.no], []) := by
 refine cK 30 4 Tryz.func24 ?_
 unfold lessF
 by_cases c1 : a1 = b1
 ·subst c1
  have e1 : (a1 != a1) = false := by simp
  rw [if_neg (by simp)]
  by_cases c2 : a2 = b2
  ·subst c2
   have e2 : (a2 != a2) = false := by simp
   rw [if_neg (by simp)]
   by_cases c3 : a3 < b3
   ·exact Wq
   ·exact Wq
  ·have e2 : (a2 != b2) = true := by simpa using c2
   rw [if_pos c2]
   clear c2
   by_cases c3 : a2 < b2
   ·exact Wq
   ·exact Wq
 ·have e1 : (a1 != b1) = true := by simpa using c1
  rw [if_pos c1]
  clear c1
  by_cases c3 : a1 < b1
  ·exact Wq
  ·exact Wq
theorem less_T (a b : T3) : lessF a.1 a.2.1 a.2.2 b.1 b.2.1 b.2.2 = lessT a b := by
 unfold lessF lessT
 by_cases h1 : a.1 = b.1
 ·by_cases h2 : a.2.1 = b.2.1
  ·simp [h1, h2]
  ·simp [h1, h2]
 ·simp [h1]
def sp3 (x : T3) : D := .agg [.int .i64 x.1, .int .i64 x.2.1, .int .i64 x.2.2]
def oneF (G : List D → T3) (s : Sf) : T3 :=
 if s.kd = 4 then (1, 0, 0)
 else if s.kd = 7 then ((G s.of_).1, IntKind.i64.wrap ((G s.of_).2.1 + 1), (G s.of_).2.2)
 else if s.kd = 3 then (0, 1, 0)
 else if s.kd = 5 then (0, 1, 0)
 else if s.kd = 6 then (0, 1, 0)
 else if s.kd = 11 then (0, 1, 0)
 else if s.kd = 12 then (0, 1, 0)
 else if s.kd = 1 then (0, 0, 1)
 else if s.kd = 13 then (0, 0, 1)
 else if s.kd = 8 then G s.of_
 else if s.kd = 10 then G s.of_
 else (0, 0, 0)
set_option maxHeartbeats 8000000 in
theorem one_L (S : Sf) (G : List D → T3) (r : List Room) (hG : callL Tryz.prog (ext11b chk) 115 [.list S.of_] [] = some (.agg [.int .i64 (G S.of_).1, .int .i64 (G S.of_).2.1, .int .i64 (G S.of_).2.2], [.no], [])) :
  callL Tryz.prog (ext11b chk) 86 [S.d] [] = some (sp3 (oneF G S), [.no], []) := by
 unfold oneF sp3 Sf.d
 generalize G S.of_ = g at *
 obtain ⟨g1, g2, g3⟩ := g
 have w1 : IntKind.i64.wrap ((0 : Int) + 1) = 1 := by decide
 dsimp only at *
 by_cases k4 : S.kd = 4
 ·rw [if_pos k4]
  generalize S.kd = kd at *
  subst k4
  exact callK (m := 34) (res := []) (rs := [.cell 2 63]) rfl Tryz.func86 rfl rfl rfl rfl rfl Wq
 rw [if_neg k4]
 by_cases k7 : S.kd = 7
 ·rw [if_pos k7]
  generalize S.kd = kd at *
  subst k7
  clear k4
  exact callK (m := 34) (res := []) (rs := [.cell 2 63]) rfl Tryz.func86 rfl rfl rfl rfl rfl Wq
 rw [if_neg k7]
 by_cases k3 : S.kd = 3
 ·rw [if_pos k3]
  generalize S.kd = kd at *
  subst k3
  clear k4 k7
  exact callK (m := 34) (res := []) (rs := [.cell 2 63]) rfl Tryz.func86 rfl rfl rfl rfl rfl Wq
 rw [if_neg k3]
 by_cases k5 : S.kd = 5
 ·rw [if_pos k5]
  generalize S.kd = kd at *
  subst k5
  clear k4 k7 k3
  exact callK (m := 34) (res := []) (rs := [.cell 2 63]) rfl Tryz.func86 rfl rfl rfl rfl rfl Wq
 rw [if_neg k5]
 by_cases k6 : S.kd = 6
 ·rw [if_pos k6]
  generalize S.kd = kd at *
  subst k6
  clear k4 k7 k3 k5
  exact callK (m := 34) (res := []) (rs := [.cell 2 63]) rfl Tryz.func86 rfl rfl rfl rfl rfl Wq
 rw [if_neg k6]
 by_cases k11 : S.kd = 11
 ·rw [if_pos k11]
  generalize S.kd = kd at *
  subst k11
  clear k4 k7 k3 k5 k6
  exact callK (m := 34) (res := []) (rs := [.cell 2 63]) rfl Tryz.func86 rfl rfl rfl rfl rfl Wq
 rw [if_neg k11]
 by_cases k12 : S.kd = 12
 ·rw [if_pos k12]
  generalize S.kd = kd at *
  subst k12
  clear k4 k7 k3 k5 k6 k11
  exact callK (m := 34) (res := []) (rs := [.cell 2 63]) rfl Tryz.func86 rfl rfl rfl rfl rfl Wq
 rw [if_neg k12]
 by_cases k1 : S.kd = 1
 ·rw [if_pos k1]
  generalize S.kd = kd at *
  subst k1
  clear k4 k7 k3 k5 k6 k11 k12
  exact callK (m := 34) (res := []) (rs := [.cell 2 63]) rfl Tryz.func86 rfl rfl rfl rfl rfl Wq
 rw [if_neg k1]
 by_cases k13 : S.kd = 13
 ·rw [if_pos k13]
  generalize S.kd = kd at *
  subst k13
  clear k4 k7 k3 k5 k6 k11 k12 k1
  exact callK (m := 34) (res := []) (rs := [.cell 2 63]) rfl Tryz.func86 rfl rfl rfl rfl rfl Wq
 rw [if_neg k13]
 by_cases k8 : S.kd = 8
 ·rw [if_pos k8]
  generalize S.kd = kd at *
  subst k8
  clear k4 k7 k3 k5 k6 k11 k12 k1 k13
  exact callK (m := 34) (res := []) (rs := [.cell 2 63]) rfl Tryz.func86 rfl rfl rfl rfl rfl Wq
 rw [if_neg k8]
 by_cases k10 : S.kd = 10
 ·rw [if_pos k10]
  generalize S.kd = kd at *
  subst k10
  clear k4 k7 k3 k5 k6 k11 k12 k1 k13 k8
  exact callK (m := 34) (res := []) (rs := [.cell 2 63]) rfl Tryz.func86 rfl rfl rfl rfl rfl Wq
 rw [if_neg k10]
 have n4 := (neI k4).1
 have n7 := (neI k7).1
 have n3 := (neI k3).1
 have n5 := (neI k5).1
 have n6 := (neI k6).1
 have n11 := (neI k11).1
 have n12 := (neI k12).1
 have n1 := (neI k1).1
 have n13 := (neI k13).1
 have n8 := (neI k8).1
 have n10 := (neI k10).1
 clear k4 k7 k3 k5 k6 k11 k12 k1 k13 k8 k10
 exact callK (m := 34) (res := []) (rs := [.cell 2 63]) rfl Tryz.func86 rfl rfl rfl rfl rfl Wq
set_option maxHeartbeats 4000000 in
theorem great115_L (l : List D) (P : D → T3) (hl : l.length ≤ 1000) (hf : ∀ c ∈ l, c = cxD (cxL c)) (hP : ∀ c ∈ l, callL Tryz.prog (ext11b chk) 48 [c] [] = some (.agg [.int .i64 (P c).1, .int .i64 (P c).2.1, .int .i64 (P c).2.2], [], [])) :
  callL Tryz.prog (ext11b chk) 115 [.list l] [] = some (.agg [.int .i64 (bestT (l.map P) (0, 0, 0)).1, .int .i64 (bestT (l.map P) (0, 0, 0)).2.1, .int .i64 (bestT (l.map P) (0, 0, 0)).2.2], [.no], []) := by
 have HP := Hd.mk hP
 have HF := Hd.mk hf
 have HL := Hd.mk hl
 obtain ⟨R, hRe⟩ : ∃ R, Hd (R = bestT (l.map P) (0, 0, 0)) := ⟨_, rfl⟩
 rw [← (show R = bestT (l.map P) (0, 0, 0) from hRe)]
 clear hP hl hf
 refine callK (m := 20) (res := []) (rs := [.cell 2 63]) rfl Tryz.func115 rfl rfl rfl rfl rfl ?_
 refine Gq ?_
 refine loopH (fun st => ∃ (i : Nat) (b : T3), i ≤ l.length ∧ st.slot 8 = .int .i64 i ∧ st.slot 7 = .int .i64 l.length ∧ st.slot 6 = .list l ∧ st.slot 2 = .ptr 2 1 0 ∧ (∃ r2, st.box 2 = some ⟨1, [.int .i64 b.1, .int .i64 b.2.1, .int .i64 b.2.2], r2⟩) ∧ Hd (R = bestT ((l.drop i).map P) b)) (fun st => l.length - slotI st 8) ?_ ?_
 ·exact ⟨0, (0, 0, 0), Nat.zero_le _, Iq, Iq, Iq, Iq, ⟨zrooms Tryz.prog 63, Iq⟩, hRe⟩
 ·rintro st K ⟨i, b, hi, g8, g7, g6, g2, ⟨r2, b2⟩, hO⟩ hn hx hr
  have hO' : R = bestT ((l.drop i).map P) b := hO
  have hll : l.length ≤ 1000 := HL
  by_cases h : i < l.length
  ·have k9 : (i : Int) < l.length := by omega
   have hw := wrapS i (by omega)
   obtain ⟨c, hc1⟩ := some_at h
   have hm := List.mem_of_getElem? hc1
   have hcf := (show ∀ c ∈ l, c = cxD (cxL c) from HF) c hm
   have hcc := (show ∀ c ∈ l, _ from HP) c hm
   rw [drop_at hc1, List.map_cons] at hO'
   have hO2 : R = bestT ((l.drop (i + 1)).map P) (mx b (P c)) := hO'
   have hg := self_getD hc1
   generalize P c = x at *
   generalize cxL c = Y at *
   subst hcf
   unfold cxD at *
   have hle := less_L (chk := chk) b.1 b.2.1 b.2.2 x.1 x.2.1 x.2.2
   rw [less_T] at hle
   unfold mx at hO2
   obtain ⟨b0, b1, b3⟩ := b
   obtain ⟨x0, x1, x2⟩ := x
   dsimp only at hle hcc b2
   cases hv : lessT (b0, b1, b3) (x0, x1, x2) with
   | true =>
    rw [hv] at hle
    rw [hv, if_pos rfl] at hO2
    have HO := Hd.mk hO2
    clear hr hx hO hO' hO2 hRe hc1 hm hll hv
    refine Gq ?_
    refine hn _ ⟨i + 1, (x0, x1, x2), h, ?_, ?_, ?_, ?_, ?_, HO⟩ ?_
    ·exact L
    ·exact L
    ·exact L
    ·exact L
    ·apply Exists.intro
     simp only [*, AVB, ↓reduceIte]
     rfl
    ·exact Zq
   | false =>
    rw [hv] at hle
    rw [hv, if_neg (by decide)] at hO2
    have HO := Hd.mk hO2
    clear hr hx hO hO' hO2 hRe hc1 hm hll hv
    refine Gq ?_
    exact hn _ ⟨i + 1, (b0, b1, b3), h, L, L, L, L, ⟨r2, L⟩, HO⟩ Zq
  ·have k9 : ¬ (i : Int) < l.length := by omega
   rw [List.drop_eq_nil_of_le (by omega)] at hO'
   have hO2 : R = b := hO'
   subst hO2
   clear hn hr hO hO' hRe h hll
   refine Gq ?_
   exact hx _ _ Wq
end Go.Av
namespace Go.Av
open Go.Proofs
variable [Rk] {chk : List D → Bool}
theorem mx_T (b x : T3) : mx b x = if lessT b x = true then x else b := rfl
set_option maxHeartbeats 8000000 in
theorem mspec_L (ns : List Nd) (nm : Nam) (l : List D) (n : Int) (ps : List UInt8) (V : D → Bool) (P : D → T3) (hl : l.length ≤ 1000) (hf : ∀ c ∈ l, c = cxD (cxL c))
  (hV : ∀ c ∈ l, callL Tryz.prog (ext11b chk) 20 [treeN ns, c, .agg nm.cs, .agg [.int .i64 n, .str ps]] [] = some (.bool (V c), [.no], []))
  (hP : ∀ c ∈ l, callL Tryz.prog (ext11b chk) 48 [c] [] = some (.agg [.int .i64 (P c).1, .int .i64 (P c).2.1, .int .i64 (P c).2.2], [], [])) :
  callL Tryz.prog (ext11b chk) 22 [treeN ns, .list l, .agg nm.cs, .agg [.int .i64 n, .str ps]] [] = some (.tuple [sp3 (specV V P l).1, .bool (specV V P l).2], [.no, .no], []) := by
 have HP := Hd.mk hP
 have HF := Hd.mk hf
 have HL := Hd.mk hl
 have HV := Hd.mk hV
 unfold specV sp3
 obtain ⟨R1, hR1⟩ : ∃ R1, Hd (R1 = bestT ((l.filter V).map P) (0, 0, 0)) := ⟨_, rfl⟩
 obtain ⟨R2, hR2⟩ : ∃ R2, Hd (R2 = l.any V) := ⟨_, rfl⟩
 dsimp only
 rw [← (show R1 = bestT ((l.filter V).map P) (0, 0, 0) from hR1), ← (show R2 = l.any V from hR2)]
 have HO0 := Hd.mk (show R1 = bestT (((l.drop 0).filter V).map P) (0, 0, 0) ∧ R2 = (false || (l.drop 0).any V) from ⟨hR1, by rw [Bool.false_or]; exact hR2⟩)
 clear hP hl hf hV hR1 hR2
 unfold Nam.cs at *
 obtain ⟨T, hT⟩ := tree_fix ns
 generalize treeN ns = T0 at *
 subst hT
 refine callK (m := 34) (res := [9]) (rs := [.cell 8 63, .tmp 9]) rfl Tryz.func22 rfl rfl rfl rfl rfl ?_
 refine Gq ?_
 refine loopH (fun st => ∃ (i : Nat) (b : T3) (ok : Bool) (r6 r7 : List Room), i ≤ l.length ∧ st.slot 15 = .int .i64 i ∧ st.slot 14 = .int .i64 l.length ∧ st.slot 13 = .list l ∧ st.slot 0 = .fix T 0 ∧ st.slot 6 = .ptr 6 1 0 ∧ st.box 6 = some ⟨1, [.bool nm.has, .str nm.dft, .list (nm.pre.map .str), .list (nm.sps.map .str)], r6⟩ ∧ st.slot 7 = .ptr 7 1 0 ∧ st.box 7 = some ⟨1, [.int .i64 n, .str ps], r7⟩ ∧ st.slot 8 = .ptr 8 1 0 ∧ (∃ r8, st.box 8 = some ⟨1, [.int .i64 b.1, .int .i64 b.2.1, .int .i64 b.2.2], r8⟩) ∧ st.slot 9 = .bool ok ∧ st.room 9 = [] ∧ Hd (R1 = bestT (((l.drop i).filter V).map P) b ∧ R2 = (ok || (l.drop i).any V))) (fun st => l.length - slotI st 15) ?_ ?_
 ·exact ⟨0, (0, 0, 0), false, (padR [] 4).take 4, (padR [] 2).take 2, Nat.zero_le _, Iq, Iq, Iq, Iq, Iq, Iq, Iq, Iq, Iq, ⟨zrooms Tryz.prog 63, Iq⟩, Iq, Iq, HO0⟩
 ·rintro st K ⟨i, b, ok, r6, r7, hi, g15, g14, g13, g0, g6, b6, g7, b7, g8, ⟨r8, b8⟩, g9, m9, hO⟩ hn hx hr
  have hO' : R1 = bestT (((l.drop i).filter V).map P) b ∧ R2 = (ok || (l.drop i).any V) := hO
  have hll : l.length ≤ 1000 := HL
  obtain ⟨b0, b1, b3⟩ := b
  dsimp only at b8
  by_cases h : i < l.length
  ·have k9 : (i : Int) < l.length := by omega
   have hw := wrapS i (by omega)
   obtain ⟨c, hc1⟩ := some_at h
   have hm := List.mem_of_getElem? hc1
   have hcf := (show ∀ c ∈ l, c = cxD (cxL c) from HF) c hm
   have hcc := (show ∀ c ∈ l, _ from HP) c hm
   have hcv := (show ∀ c ∈ l, _ from HV) c hm
   rw [drop_at hc1, List.any_cons, List.filter_cons] at hO'
   have hg := self_getD hc1
   obtain ⟨v, hv⟩ : ∃ v, V c = v := ⟨_, rfl⟩
   obtain ⟨Q, hQ⟩ : ∃ Q, P c = Q := ⟨_, rfl⟩
   rw [hv] at hO' hcv
   generalize cxL c = Y at *
   cases v with
   | false =>
    rw [if_neg (by decide), Bool.false_or] at hO'
    subst hcf
    unfold cxD at *
    have HO := Hd.mk hO'
    clear hr hx hO hO' hc1 hm hll hv hcc hQ
    refine Gq ?_
    exact hn _ ⟨i + 1, (b0, b1, b3), ok, r6, r7, h, L, L, L, L, L, L, L, L, L, ⟨r8, L⟩, L, L, HO⟩ Zq
   | true =>
    rw [if_pos rfl, List.map_cons, hQ, Bool.true_or, Bool.or_true] at hO'
    rw [hQ] at hcc
    have hO2 : R1 = bestT (((l.drop (i + 1)).filter V).map P) (mx (b0, b1, b3) Q) ∧ R2 = true := hO'
    subst hcf
    unfold cxD at *
    obtain ⟨x0, x1, x2⟩ := Q
    have hle := less_L (chk := chk) b0 b1 b3 x0 x1 x2
    have hlt := less_T (b0, b1, b3) (x0, x1, x2)
    dsimp only at hlt
    rw [hlt] at hle
    rw [mx_T] at hO2
    dsimp only at hle hcc
    clear hlt
    cases hq : lessT (b0, b1, b3) (x0, x1, x2) with
    | true =>
     rw [hq] at hle
     rw [hq, if_pos rfl] at hO2
     have HO := Hd.mk (show R1 = bestT (((l.drop (i + 1)).filter V).map P) (x0, x1, x2) ∧ R2 = (true || (l.drop (i + 1)).any V) from ⟨hO2.1, by rw [Bool.true_or]; exact hO2.2⟩)
     clear hr hx hO hO' hO2 hc1 hm hll hv hQ hq
     refine Gq ?_
     refine hn _ ⟨i + 1, (x0, x1, x2), true, r6, r7, h, ?_, ?_, ?_, ?_, ?_, ?_, ?_, ?_, ?_, ?_, ?_, ?_, HO⟩ ?_
     ·exact L
     ·exact L
     ·exact L
     ·exact L
     ·exact L
     ·exact L
     ·exact L
     ·exact L
     ·exact L
     ·apply Exists.intro
      simp only [*, AVB, AVY, Yq.AVQ, ↓reduceIte, Nat.reduceEqDiff, Nat.reduceLT, Nat.reduceLeDiff, reduceCtorEq, Nat.reduceBEq, String.reduceBEq, Nat.reduceAdd, Nat.reduceSub, Nat.reduceMul, Int.reduceLE, Int.reduceLT, Int.reduceToNat, Int.reduceBEq, Int.reduceBNe, List.zipWith, dIntBin]
      rfl
     ·exact L
     ·exact L
     ·exact Zq
    | false =>
     rw [hq] at hle
     rw [hq, if_neg (by decide)] at hO2
     have HO := Hd.mk (show R1 = bestT (((l.drop (i + 1)).filter V).map P) (b0, b1, b3) ∧ R2 = (true || (l.drop (i + 1)).any V) from ⟨hO2.1, by rw [Bool.true_or]; exact hO2.2⟩)
     clear hr hx hO hO' hO2 hc1 hm hll hv hQ hq
     refine Gq ?_
     exact hn _ ⟨i + 1, (b0, b1, b3), true, r6, r7, h, L, L, L, L, L, L, L, L, L, ⟨r8, L⟩, L, L, HO⟩ Zq
  ·have k9 : ¬ (i : Int) < l.length := by omega
   rw [List.drop_eq_nil_of_le (by omega)] at hO'
   have hO1 : R1 = (b0, b1, b3) := hO'.1
   have hO2 : R2 = ok := hO'.2.trans (Bool.or_false _)
   subst hO1
   subst hO2
   clear hn hr hO hO' h hll HO0
   refine Gq ?_
   exact hx _ _ Wq
end Go.Av
namespace Go.Av
open Go.Proofs Go.RowKit Go.Proofs.YtcogfddcdpgpkaaGreatDoor
def gOf (P : D → T3) (l : List D) : T3 := bestT (l.map P) (0, 0, 0)
def specF : Nat → D → T3
 | 0, _ => (0, 0, 0)
 | k + 1, c => sumL (fun s => oneF (gOf (specF k)) (sf s)) ((cxL c).flatMap cpL)
theorem sumL_congr {o o' : D → T3} (ss : List D) (h : ∀ s ∈ ss, o s = o' s) : sumL o ss = sumL o' ss := by
 unfold sumL
 generalize ((0, 0, 0) : T3) = z
 induction ss generalizing z with
 | nil => rfl
 | cons s r ih =>
  rw [List.foldl_cons, List.foldl_cons, h s (List.mem_cons_self ..)]
  exact ih (fun x hx => h x (List.mem_cons_of_mem _ hx)) _
theorem oneF_congr {G G' : List D → T3} {S : Sf} (h : G S.of_ = G' S.of_) : oneF G S = oneF G' S := by
 unfold oneF
 rw [h]
theorem gOf_congr {P P' : D → T3} {l : List D} (h : ∀ c ∈ l, P c = P' c) : gOf P l = gOf P' l := by
 unfold gOf
 rw [List.map_congr_left h]
theorem flat_sm {m k : Nat} {c : D} (h : cxOk m (smOk m k) c = true) : ∀ s ∈ (cxL c).flatMap cpL, smOk m k s = true := by
 intro s hs
 obtain ⟨x, hx, hxs⟩ := List.mem_flatMap.1 hs
 obtain ⟨l, rfl, _, h1⟩ := cxOk_inv h
 obtain ⟨cc, sl, rfl, _, h2⟩ := cpOk_inv (h1 x hx)
 exact h2 s hxs
theorem spec_fuel {m : Nat} : ∀ (k : Nat) (c : D), cxOk m (smOk m k) c = true → ∀ j, k ≤ j → specF j c = specF k c
 | 0, c, h, j, _ => by
  have hn : (cxL c).flatMap cpL = [] := List.eq_nil_iff_forall_not_mem.2 fun s hs => by
   have := flat_sm h s hs
   simp [smOk] at this
  cases j with
  | zero => rfl
  | succ j =>
   unfold specF
   rw [hn]
   rfl
 | k + 1, c, h, 0, hj => absurd hj (by omega)
 | k + 1, c, h, j + 1, hj => by
  unfold specF
  refine sumL_congr _ fun s hs => oneF_congr (gOf_congr fun d hd => ?_)
  obtain ⟨_, _, _, _, h4⟩ := smOk_inv (flat_sm h s hs)
  exact spec_fuel k d ((lsOk_mem h4).2 d hd) j (by omega)
def spT : D → T3 := specF 50
theorem spT_step {k : Nat} {c : D} (hk : k ≤ 50) (h : cxOk 100 (smOk 100 k) c = true) : spT c = sumL (fun s => oneF (gOf spT) (sf s)) ((cxL c).flatMap cpL) := by
 have h1 : spT c = specF k c := spec_fuel k c h 50 hk
 rw [h1]
 cases k with
 | zero =>
  have hn : (cxL c).flatMap cpL = [] := List.eq_nil_iff_forall_not_mem.2 fun s hs => by
   have := flat_sm h s hs
   simp [smOk] at this
  rw [hn]
  rfl
 | succ k =>
  unfold specF
  refine sumL_congr _ fun s hs => oneF_congr (gOf_congr fun d hd => ?_)
  obtain ⟨_, _, _, _, h4⟩ := smOk_inv (flat_sm h s hs)
  exact (spec_fuel k d ((lsOk_mem h4).2 d hd) 50 (by omega)).symm
def spE (k : Nat) : Call := fun f args pbs => match f, args, pbs with
 | 8, [], [] => some (.bool true, [.no], [])
 | 48, [c], [] => if cxOk 100 (smOk 100 k) c = true then some (sp3 (spT c), [], []) else none
 | _, _, _ => none
def SpC (k : Nat) : Prop := ∀ c, cxOk 100 (smOk 100 k) c = true → C1 48 [c] (sp3 (spT c)) []
theorem spE_ok {k : Nat} (h : SpC k) : CallOK Tryz.prog (spE k) := by
 intro f args pbs d r pbs' he
 unfold spE at he
 split at he
 ·simp only [Option.some.injEq, Prod.mk.injEq] at he
  obtain ⟨rfl, rfl, rfl⟩ := he
  obtain ⟨c1, c2⟩ := sp8
  exact ⟨c1, fun vals w F μ hl hd _ hgv hlt hg => c2 vals w F μ hl hd hgv hlt hg⟩
 ·rename_i c
  split at he
  ·rename_i hc
   simp only [Option.some.injEq, Prod.mk.injEq] at he
   obtain ⟨rfl, rfl, rfl⟩ := he
   obtain ⟨c1, c2⟩ := h c hc
   exact ⟨c1, fun vals w F μ hl hd _ hgv hlt hg => c2 vals w F μ hl hd hgv hlt hg⟩
  ·cases he
 ·cases he
theorem sm_isSm {m k : Nat} {d : D} (h : smOk m k d = true) : isSm d = true := by
 cases k with
 | zero => simp [smOk] at h
 | succ k =>
  obtain ⟨e, _⟩ := smOk_inv h
  rw [e]
  rfl
theorem den_cx {c : Nat → Nat} {ν : Nat → Nat → Nat} {F : Nat → Nat → Prop} {w : World} {v : Value} {l : List D} (h : Den c ν F w v (cxD l)) : Den0 F w v (cxD l) := by
 unfold cxD at *
 cases h with
 | pure v d hp => exact hp
 | agg vs _ h1 h2 h3 =>
  refine .agg vs _ h1 h2 (fun i v d a b => ?_)
  match i with
  | 0 =>
   simp only [List.getElem?_cons_zero, Option.some.injEq] at b
   subst b
   exact (h3 0 v _ a rfl).list_
  | i + 1 => simp at b
theorem sp_step {k : Nat} (hk : k ≤ 50) (ext : Call) (hext : CallOK Tryz.prog ext)
  (hone : ∀ s, smOk 100 k s = true → callL Tryz.prog ext 86 [s] [] = some (sp3 (oneF (gOf spT) (sf s)), [.no], [])) : SpC k := by
 intro c hc
 refine ⟨⟨_, Tryz.func48, rfl⟩, fun vals w F μ hl hd _ hlt hg => ?_⟩
 match vals, hl with
 | [v], _ =>
  obtain ⟨X, rfl, hX1, hX2⟩ := cxOk_inv hc
  have d0 := (den_cx (hd 0 v _ rfl rfl)).ext (ext_old hlt)
  have hgo := gok_ext (ext_old hlt) hg
  have hs : ∀ x ∈ X, ∀ s ∈ cpL x, smOk 100 k s = true := fun x hx s hsx => by
   obtain ⟨cc, sl, rfl, _, h2⟩ := cpOk_inv (hX2 x hx)
   exact h2 s hsx
  refine (spec_denM w v X d0 (by omega) (fun x hx => by
   obtain ⟨cc, sl, rfl, h1, h2⟩ := cpOk_inv (hX2 x hx)
   exact ⟨rfl, by show sl.length ≤ _; omega, fun s hsx => sm_isSm (h2 s hsx)⟩) (fun s => oneF (gOf spT) (sf s)) (fun x hx s hsx W u hB hu => ?_)).mono ?_
  ·have hcall := C1.callL hext (hone s (hs x hx s hsx))
   refine (callC hcall (vals := [u]) (gok_ext (ext_below hB) hgo) rfl (fun i v x h1 h2 => by
    match i with
    | 0 => simp at h1 h2; subst h1; subst h2; exact hu
    | i + 1 => simp at h1)).mono ?_
   rintro e w' ⟨⟨v, rfl, hv⟩, hb⟩
   exact ⟨by rw [den_sp (hv (fun _ => 0) fun _ _ => 0)], hb⟩
  ·rintro e w' ⟨rfl, hb⟩
   have e1 := spT_step hk hc
   rw [show cxL (cxD X) = X from rfl] at e1
   rw [← e1]
   exact ret_below (sp_den _ _ _) hlt hb
theorem spAll : ∀ k, k ≤ 45 → SpC k
 | 0, _ => sp_step (by decide) noExt noExt_ok fun s hs => by simp [smOk] at hs
 | k + 1, hk => by
  have ih := spAll k (by omega)
  letI : Rk := rkE (spE k) fun _ => False
  have hext : CallOK Tryz.prog (ext11b fun _ => false) := ext11b_ok0 (extR_ok (fun ns nm l n h => absurd h.2.2.2.2.2 id) (spE_ok ih))
  refine sp_step (by omega) _ hext fun s hs => ?_
  obtain ⟨e, _, _, _, h4⟩ := smOk_inv hs
  have h1 := great115_L (chk := fun _ => false) (sf s).of_ spT (by have := (lsOk_mem h4).1; omega) (fun c hc => by
   obtain ⟨l, rfl, _⟩ := cxOk_inv ((lsOk_mem h4).2 c hc)
   rfl) (fun c hc => callL_ext (ext_spec (by
    show (if cxOk 100 (smOk 100 k) c = true then some (sp3 (spT c), ([] : List Room), ([] : List Bx)) else none) = _
    rw [if_pos ((lsOk_mem h4).2 c hc)]
    rfl)))
  have h2 := one_L (chk := fun _ => false) (sf s) (gOf spT) [] h1
  rw [← e] at h2
  exact h2
structure SpA (R : Rk) : Prop where
 a : RowA R
 sp : ∀ c, cxOk 100 (smOk 100 45) c = true → R.r 48 [c] [] = some (sp3 (spT c), [], [])
theorem spA : SpA (rkE (spE 45) okA) :=
 ⟨rowA rfl, fun c hc => by
  show (if cxOk 100 (smOk 100 45) c = true then some (sp3 (spT c), ([] : List Room), ([] : List Bx)) else none) = _
  rw [if_pos hc]⟩
theorem spExt_ok : CallOK Tryz.prog (@ext11b (rkE (spE 45) okA) chkB) := ext12_ok (spE_ok (spAll 45 (Nat.le_refl _)))
theorem specA_L [R : Rk] (hA : SpA R) {chk : List D → Bool} {ns : List Nd} {nm : Nam} {l : List D} {k : Nat} (hk : k ≤ 45) (h1 : SmallD ns) (h2 : RightT ns) (h3 : nm.ok) (hl : lsOk 100 (smN k) l = true) (n : Int) (ps : List UInt8) :
  callL Tryz.prog (ext11b chk) 22 [treeN ns, .list l, .agg nm.cs, subD n ps] [] = some (.tuple [sp3 (specV (fun c => complexP ns nm c n ps) spT l).1, .bool (selV ns nm l n ps)], [.no, .no], []) := by
 obtain ⟨g1, g2⟩ := lsOk_mem hl
 have hcx : ∀ c ∈ l, cxOk 100 (smOk 100 45) c = true := fun c hc => cx_mono (fun d hd => smOk_up _ _ (smN_ok hd) 45 hk) (g2 c hc)
 exact mspec_L (chk := chk) ns nm l n ps (fun c => complexP ns nm c n ps) spT (by omega) (fun c hc => by
  obtain ⟨l1, rfl, _⟩ := cxOk_inv (g2 c hc)
  rfl) (fun c hc => by
  have := complex_L (chk := chk) (k := 44) ns nm c n ps h1 (hcx c hc) fun he => rowA_L hA.a h1 h2 h3 he (okA_of hk (g2 c hc))
  obtain ⟨l1, rfl, _⟩ := cxOk_inv (g2 c hc)
  exact this) (fun c hc => callL_ext (ext_spec (hA.sp c (hcx c hc))))
end Go.Av
namespace Go.Av
open Go.Proofs
variable [Rk] {chk : List D → Bool}
theorem wrap_in (a : Int) : ∃ q : Int, IntKind.i64.wrap a = a + q * 18446744073709551616 := by
 have e : IntKind.i64.wrap a = if a % 18446744073709551616 ≥ 9223372036854775808 then a % 18446744073709551616 - 18446744073709551616 else a % 18446744073709551616 := by
  show (if (true && decide (a % 18446744073709551616 ≥ 9223372036854775808)) = true then a % 18446744073709551616 - 18446744073709551616 else a % 18446744073709551616) = _
  simp only [Bool.true_and, decide_eq_true_eq]
 rw [e]
 have h := Int.emod_add_mul_ediv a 18446744073709551616
 split
 ·exact ⟨-(a / 18446744073709551616) - 1, by omega⟩
 ·exact ⟨-(a / 18446744073709551616), by omega⟩
theorem wrap_cong {a b q : Int} (h : a = b + q * 18446744073709551616) : IntKind.i64.wrap a = IntKind.i64.wrap b := by
 have e : ∀ a : Int, IntKind.i64.wrap a = if a % 18446744073709551616 ≥ 9223372036854775808 then a % 18446744073709551616 - 18446744073709551616 else a % 18446744073709551616 := fun a => by
  show (if (true && decide (a % 18446744073709551616 ≥ 9223372036854775808)) = true then a % 18446744073709551616 - 18446744073709551616 else a % 18446744073709551616) = _
  simp only [Bool.true_and, decide_eq_true_eq]
 have hm : a % 18446744073709551616 = b % 18446744073709551616 := by rw [h, Int.add_mul_emod_self_right]
 rw [e, e, hm]
theorem wrap_l (a b : Int) : IntKind.i64.wrap (IntKind.i64.wrap a + b) = IntKind.i64.wrap (a + b) := by
 obtain ⟨q, h⟩ := wrap_in a
 exact wrap_cong (q := q) (by rw [h]; omega)
theorem wrap_r (a b : Int) : IntKind.i64.wrap (a + IntKind.i64.wrap b) = IntKind.i64.wrap (a + b) := by
 obtain ⟨q, h⟩ := wrap_in b
 exact wrap_cong (q := q) (by rw [h]; omega)
def sumF (o : D → T3) (b : T3) (ss : List D) : T3 := ss.foldl (fun s d => add3 s (o d)) b
theorem sumF_cons (o : D → T3) (b : T3) (s : D) (r : List D) : sumF o b (s :: r) = sumF o (add3 b (o s)) r := rfl
set_option maxHeartbeats 32000000 in
theorem rspec_L (X : List D) (G : List D → T3) (hXl : X.length ≤ 1000)
  (hX : ∀ x ∈ X, x = .agg [.int .i64 (cpC x), .list (cpL x)] ∧ (cpL x).length ≤ 1000 ∧ ∀ s ∈ cpL x, s = .agg [.int .i64 (sf s).kd, .int .i64 (sf s).ns, .str (sf s).pre, .str (sf s).nm, .int .i64 (sf s).op, .str (sf s).tx, .bool (sf s).fold, .int .i64 (sf s).mark, .int .i64 (sf s).a, .int .i64 (sf s).b, .list (sf s).of_] ∧ callL Tryz.prog (ext11b chk) 89 [.list (sf s).of_] [] = some (.agg [.int .i64 (G (sf s).of_).1, .int .i64 (G (sf s).of_).2.1, .int .i64 (G (sf s).of_).2.2], [.no], [])) :
  callL Tryz.prog (ext11b chk) 50 [.agg [.list X]] [] = some (sp3 (sumL (fun s => oneF G (sf s)) (X.flatMap cpL)), [.no], []) := by
 have HX := Hd.mk hX
 have HL := Hd.mk hXl
 unfold sp3
 obtain ⟨o, ho⟩ : ∃ o : D → T3, o = fun s => oneF G (sf s) := ⟨_, rfl⟩
 have HOO := Hd.mk (show ∀ s, o s = oneF G (sf s) from fun s => by rw [ho])
 obtain ⟨R, hRe⟩ : ∃ R, Hd (R = sumF o (0, 0, 0) (X.flatMap cpL)) := ⟨_, rfl⟩
 rw [← ho, show sumL o (X.flatMap cpL) = R from (show R = _ from hRe).symm]
 clear ho
 clear hX hXl
 refine callK (m := 121) (res := []) (rs := [.cell 2 63]) rfl Tryz.func50 rfl rfl rfl rfl rfl ?_
 refine Gq ?_
 refine loopH (fun st => ∃ (k : Nat) (b : T3) (r1 r2 : List Room), k ≤ X.length ∧ st.slot 4 = .int .i64 k ∧ st.slot 1 = .ptr 1 1 0 ∧ st.box 1 = some ⟨1, [.list X], r1⟩ ∧ st.slot 2 = .ptr 2 1 0 ∧ st.box 2 = some ⟨1, [.int .i64 0, .int .i64 0, .int .i64 0], r2⟩ ∧ st.slot 3 = .ptr 3 1 0 ∧ (∃ r3, st.box 3 = some ⟨1, [.int .i64 b.1, .int .i64 b.2.1, .int .i64 b.2.2], r3⟩) ∧ Hd (R = sumF o b ((X.drop k).flatMap cpL))) (fun st => X.length - slotI st 4) ?_ ?_
 ·exact ⟨0, (0, 0, 0), (padR [] 1).take 1, zrooms Tryz.prog 63, Nat.zero_le _, Iq, Iq, Iq, Iq, Iq, Iq, ⟨(zrooms Tryz.prog 63), Iq⟩, hRe⟩
 ·rintro st K ⟨k, b, r1, r2, hk, g4, g1, b1, g2, b2, g3, ⟨r3, b3⟩, hO⟩ hn hx hr
  have hO' : R = sumF o b ((X.drop k).flatMap cpL) := hO
  have hxl : X.length ≤ 1000 := HL
  by_cases h : k < X.length
  ·have k9 : (k : Int) < X.length := by omega
   have hw := wrapS k (by omega)
   obtain ⟨x, hx1⟩ := some_at h
   obtain ⟨e1, e2, e3⟩ := (show ∀ x ∈ X, _ from HX) x (List.mem_of_getElem? hx1)
   have hg := (self_getD hx1).trans e1
   rw [drop_at hx1, List.flatMap_cons] at hO'
   generalize cpL x = Y at *
   generalize cpC x = cc at *
   have HK := Hd.mk h
   have HY := Hd.mk e3
   have HYL := Hd.mk e2
   have HO := Hd.mk hO'
   clear hO hO' hx hx1 e1 e2 e3 h hxl hRe hr
   refine Gq ?_
   refine loopH (fun st' => ∃ (m : Nat) (b : T3) (r1 r2 : List Room), m ≤ Y.length ∧ st'.slot 5 = .int .i64 m ∧ st'.slot 4 = .int .i64 k ∧ st'.slot 1 = .ptr 1 1 0 ∧ st'.box 1 = some ⟨1, [.list X], r1⟩ ∧ st'.slot 2 = .ptr 2 1 0 ∧ st'.box 2 = some ⟨1, [.int .i64 0, .int .i64 0, .int .i64 0], r2⟩ ∧ st'.slot 3 = .ptr 3 1 0 ∧ (∃ r3, st'.box 3 = some ⟨1, [.int .i64 b.1, .int .i64 b.2.1, .int .i64 b.2.2], r3⟩) ∧ Hd (R = sumF o b (Y.drop m ++ (X.drop (k + 1)).flatMap cpL))) (fun st' => Y.length - slotI st' 5) ?_ ?_
   ·exact ⟨0, b, r1, r2, Nat.zero_le _, Iq, Iq, Iq, Iq, Iq, Iq, Iq, ⟨r3, Iq⟩, HO⟩
   ·rintro st' K' ⟨m, b', q1, q2, hm, f5, f4, f1, c1, f2, c2, f3, ⟨q3, c3⟩, hO2⟩ hn2 hx2 hr2
    have G4 := Hd.mk g4
    clear g4 g1 b1 g2 b2 g3 b3 HO
    have hyl : Y.length ≤ 1000 := HYL
    have hO3 : R = sumF o b' (Y.drop m ++ (X.drop (k + 1)).flatMap cpL) := hO2
    obtain ⟨u0, u1, u2⟩ := b'
    dsimp only at c3
    by_cases h : m < Y.length
    ·have k10 : (m : Int) < Y.length := by omega
     have hw2 := wrapS m (by omega)
     obtain ⟨s, hs1⟩ := some_at h
     obtain ⟨a1, a2⟩ := (show ∀ s ∈ Y, _ from HY) s (List.mem_of_getElem? hs1)
     have hz := (self_getD hs1).trans a1
     rw [drop_at hs1, List.cons_append, sumF_cons] at hO3
     rw [(show ∀ s, o s = oneF G (sf s) from HOO) s] at hO3
     unfold add3 oneF at hO3
     generalize sf s = S at *
     generalize G S.of_ = g at *
     obtain ⟨g0, g1, g2⟩ := g
     dsimp only at a2 hO3
     have HM := Hd.mk h
     clear hO2 hs1 a1 h hyl hn hr2 hx2
     by_cases k4 : S.kd = 4
     ·rw [if_pos k4] at hO3
      generalize S.kd = kd at *
      subst k4
      have HO3 := Hd.mk (show R = sumF o (IntKind.i64.wrap (IntKind.i64.wrap (u0 + 0) + 1), IntKind.i64.wrap (u1 + 0), IntKind.i64.wrap (u2 + 0)) (Y.drop (m + 1) ++ (X.drop (k + 1)).flatMap cpL) from by rw [hO3]; simp only [wrap_l, Int.add_zero])
      clear hO3
      refine Gq ?_
      refine hn2 _ ⟨m + 1, (IntKind.i64.wrap (IntKind.i64.wrap (u0 + 0) + 1), IntKind.i64.wrap (u1 + 0), IntKind.i64.wrap (u2 + 0)), q1, q2, HM, ?_, ?_, ?_, ?_, ?_, ?_, ?_, ?_, HO3⟩ ?_
      ·exact L
      ·exact L
      ·exact L
      ·exact L
      ·exact L
      ·exact L
      ·exact L
      ·apply Exists.intro
       simp only [*, AVB, ↓reduceIte]
       rfl
      ·have hm2 : m < Y.length := HM
       simp only [slotI, *, AVB, ↓reduceIte]
       omega
     rw [if_neg k4] at hO3
     by_cases k7 : S.kd = 7
     ·rw [if_pos k7] at hO3
      generalize S.kd = kd at *
      subst k7
      have HO3 := Hd.mk (show R = sumF o (IntKind.i64.wrap (u0 + g0), IntKind.i64.wrap (IntKind.i64.wrap (u1 + g1) + 1), IntKind.i64.wrap (u2 + g2)) (Y.drop (m + 1) ++ (X.drop (k + 1)).flatMap cpL) from by rw [hO3]; simp only [wrap_l, wrap_r]; rw [← Int.add_assoc])
      clear hO3 k4
      refine Gq ?_
      refine hn2 _ ⟨m + 1, (IntKind.i64.wrap (u0 + g0), IntKind.i64.wrap (IntKind.i64.wrap (u1 + g1) + 1), IntKind.i64.wrap (u2 + g2)), q1, q2, HM, ?_, ?_, ?_, ?_, ?_, ?_, ?_, ?_, HO3⟩ ?_
      ·exact L
      ·exact L
      ·exact L
      ·exact L
      ·exact L
      ·exact L
      ·exact L
      ·apply Exists.intro
       simp only [*, AVB, ↓reduceIte]
       rfl
      ·have hm2 : m < Y.length := HM
       simp only [slotI, *, AVB, ↓reduceIte]
       omega
     rw [if_neg k7] at hO3
     by_cases k3 : S.kd = 3
     ·rw [if_pos k3] at hO3
      generalize S.kd = kd at *
      subst k3
      have HO3 := Hd.mk (show R = sumF o (IntKind.i64.wrap (u0 + 0), IntKind.i64.wrap (IntKind.i64.wrap (u1 + 0) + 1), IntKind.i64.wrap (u2 + 0)) (Y.drop (m + 1) ++ (X.drop (k + 1)).flatMap cpL) from by rw [hO3]; simp only [wrap_l, Int.add_zero])
      clear hO3 k4 k7
      refine Gq ?_
      refine hn2 _ ⟨m + 1, (IntKind.i64.wrap (u0 + 0), IntKind.i64.wrap (IntKind.i64.wrap (u1 + 0) + 1), IntKind.i64.wrap (u2 + 0)), q1, q2, HM, ?_, ?_, ?_, ?_, ?_, ?_, ?_, ?_, HO3⟩ ?_
      ·exact L
      ·exact L
      ·exact L
      ·exact L
      ·exact L
      ·exact L
      ·exact L
      ·apply Exists.intro
       simp only [*, AVB, ↓reduceIte]
       rfl
      ·have hm2 : m < Y.length := HM
       simp only [slotI, *, AVB, ↓reduceIte]
       omega
     rw [if_neg k3] at hO3
     by_cases k5 : S.kd = 5
     ·rw [if_pos k5] at hO3
      generalize S.kd = kd at *
      subst k5
      have HO3 := Hd.mk (show R = sumF o (IntKind.i64.wrap (u0 + 0), IntKind.i64.wrap (IntKind.i64.wrap (u1 + 0) + 1), IntKind.i64.wrap (u2 + 0)) (Y.drop (m + 1) ++ (X.drop (k + 1)).flatMap cpL) from by rw [hO3]; simp only [wrap_l, Int.add_zero])
      clear hO3 k4 k7 k3
      refine Gq ?_
      refine hn2 _ ⟨m + 1, (IntKind.i64.wrap (u0 + 0), IntKind.i64.wrap (IntKind.i64.wrap (u1 + 0) + 1), IntKind.i64.wrap (u2 + 0)), q1, q2, HM, ?_, ?_, ?_, ?_, ?_, ?_, ?_, ?_, HO3⟩ ?_
      ·exact L
      ·exact L
      ·exact L
      ·exact L
      ·exact L
      ·exact L
      ·exact L
      ·apply Exists.intro
       simp only [*, AVB, ↓reduceIte]
       rfl
      ·have hm2 : m < Y.length := HM
       simp only [slotI, *, AVB, ↓reduceIte]
       omega
     rw [if_neg k5] at hO3
     by_cases k6 : S.kd = 6
     ·rw [if_pos k6] at hO3
      generalize S.kd = kd at *
      subst k6
      have HO3 := Hd.mk (show R = sumF o (IntKind.i64.wrap (u0 + 0), IntKind.i64.wrap (IntKind.i64.wrap (u1 + 0) + 1), IntKind.i64.wrap (u2 + 0)) (Y.drop (m + 1) ++ (X.drop (k + 1)).flatMap cpL) from by rw [hO3]; simp only [wrap_l, Int.add_zero])
      clear hO3 k4 k7 k3 k5
      refine Gq ?_
      refine hn2 _ ⟨m + 1, (IntKind.i64.wrap (u0 + 0), IntKind.i64.wrap (IntKind.i64.wrap (u1 + 0) + 1), IntKind.i64.wrap (u2 + 0)), q1, q2, HM, ?_, ?_, ?_, ?_, ?_, ?_, ?_, ?_, HO3⟩ ?_
      ·exact L
      ·exact L
      ·exact L
      ·exact L
      ·exact L
      ·exact L
      ·exact L
      ·apply Exists.intro
       simp only [*, AVB, ↓reduceIte]
       rfl
      ·have hm2 : m < Y.length := HM
       simp only [slotI, *, AVB, ↓reduceIte]
       omega
     rw [if_neg k6] at hO3
     by_cases k11 : S.kd = 11
     ·rw [if_pos k11] at hO3
      generalize S.kd = kd at *
      subst k11
      have HO3 := Hd.mk (show R = sumF o (IntKind.i64.wrap (u0 + 0), IntKind.i64.wrap (IntKind.i64.wrap (u1 + 0) + 1), IntKind.i64.wrap (u2 + 0)) (Y.drop (m + 1) ++ (X.drop (k + 1)).flatMap cpL) from by rw [hO3]; simp only [wrap_l, Int.add_zero])
      clear hO3 k4 k7 k3 k5 k6
      refine Gq ?_
      refine hn2 _ ⟨m + 1, (IntKind.i64.wrap (u0 + 0), IntKind.i64.wrap (IntKind.i64.wrap (u1 + 0) + 1), IntKind.i64.wrap (u2 + 0)), q1, q2, HM, ?_, ?_, ?_, ?_, ?_, ?_, ?_, ?_, HO3⟩ ?_
      ·exact L
      ·exact L
      ·exact L
      ·exact L
      ·exact L
      ·exact L
      ·exact L
      ·apply Exists.intro
       simp only [*, AVB, ↓reduceIte]
       rfl
      ·have hm2 : m < Y.length := HM
       simp only [slotI, *, AVB, ↓reduceIte]
       omega
     rw [if_neg k11] at hO3
     by_cases k12 : S.kd = 12
     ·rw [if_pos k12] at hO3
      generalize S.kd = kd at *
      subst k12
      have HO3 := Hd.mk (show R = sumF o (IntKind.i64.wrap (u0 + 0), IntKind.i64.wrap (IntKind.i64.wrap (u1 + 0) + 1), IntKind.i64.wrap (u2 + 0)) (Y.drop (m + 1) ++ (X.drop (k + 1)).flatMap cpL) from by rw [hO3]; simp only [wrap_l, Int.add_zero])
      clear hO3 k4 k7 k3 k5 k6 k11
      refine Gq ?_
      refine hn2 _ ⟨m + 1, (IntKind.i64.wrap (u0 + 0), IntKind.i64.wrap (IntKind.i64.wrap (u1 + 0) + 1), IntKind.i64.wrap (u2 + 0)), q1, q2, HM, ?_, ?_, ?_, ?_, ?_, ?_, ?_, ?_, HO3⟩ ?_
      ·exact L
      ·exact L
      ·exact L
      ·exact L
      ·exact L
      ·exact L
      ·exact L
      ·apply Exists.intro
       simp only [*, AVB, ↓reduceIte]
       rfl
      ·have hm2 : m < Y.length := HM
       simp only [slotI, *, AVB, ↓reduceIte]
       omega
     rw [if_neg k12] at hO3
     by_cases k1 : S.kd = 1
     ·rw [if_pos k1] at hO3
      generalize S.kd = kd at *
      subst k1
      have HO3 := Hd.mk (show R = sumF o (IntKind.i64.wrap (u0 + 0), IntKind.i64.wrap (u1 + 0), IntKind.i64.wrap (IntKind.i64.wrap (u2 + 0) + 1)) (Y.drop (m + 1) ++ (X.drop (k + 1)).flatMap cpL) from by rw [hO3]; simp only [wrap_l, Int.add_zero])
      clear hO3 k4 k7 k3 k5 k6 k11 k12
      refine Gq ?_
      refine hn2 _ ⟨m + 1, (IntKind.i64.wrap (u0 + 0), IntKind.i64.wrap (u1 + 0), IntKind.i64.wrap (IntKind.i64.wrap (u2 + 0) + 1)), q1, q2, HM, ?_, ?_, ?_, ?_, ?_, ?_, ?_, ?_, HO3⟩ ?_
      ·exact L
      ·exact L
      ·exact L
      ·exact L
      ·exact L
      ·exact L
      ·exact L
      ·apply Exists.intro
       simp only [*, AVB, ↓reduceIte]
       rfl
      ·have hm2 : m < Y.length := HM
       simp only [slotI, *, AVB, ↓reduceIte]
       omega
     rw [if_neg k1] at hO3
     by_cases k13 : S.kd = 13
     ·rw [if_pos k13] at hO3
      generalize S.kd = kd at *
      subst k13
      have HO3 := Hd.mk (show R = sumF o (IntKind.i64.wrap (u0 + 0), IntKind.i64.wrap (u1 + 0), IntKind.i64.wrap (IntKind.i64.wrap (u2 + 0) + 1)) (Y.drop (m + 1) ++ (X.drop (k + 1)).flatMap cpL) from by rw [hO3]; simp only [wrap_l, Int.add_zero])
      clear hO3 k4 k7 k3 k5 k6 k11 k12 k1
      refine Gq ?_
      refine hn2 _ ⟨m + 1, (IntKind.i64.wrap (u0 + 0), IntKind.i64.wrap (u1 + 0), IntKind.i64.wrap (IntKind.i64.wrap (u2 + 0) + 1)), q1, q2, HM, ?_, ?_, ?_, ?_, ?_, ?_, ?_, ?_, HO3⟩ ?_
      ·exact L
      ·exact L
      ·exact L
      ·exact L
      ·exact L
      ·exact L
      ·exact L
      ·apply Exists.intro
       simp only [*, AVB, ↓reduceIte]
       rfl
      ·have hm2 : m < Y.length := HM
       simp only [slotI, *, AVB, ↓reduceIte]
       omega
     rw [if_neg k13] at hO3
     by_cases k8 : S.kd = 8
     ·rw [if_pos k8] at hO3
      generalize S.kd = kd at *
      subst k8
      have HO3 := Hd.mk (show R = sumF o (IntKind.i64.wrap (u0 + g0), IntKind.i64.wrap (u1 + g1), IntKind.i64.wrap (u2 + g2)) (Y.drop (m + 1) ++ (X.drop (k + 1)).flatMap cpL) from by rw [hO3])
      clear hO3 k4 k7 k3 k5 k6 k11 k12 k1 k13
      refine Gq ?_
      refine hn2 _ ⟨m + 1, (IntKind.i64.wrap (u0 + g0), IntKind.i64.wrap (u1 + g1), IntKind.i64.wrap (u2 + g2)), q1, q2, HM, ?_, ?_, ?_, ?_, ?_, ?_, ?_, ?_, HO3⟩ ?_
      ·exact L
      ·exact L
      ·exact L
      ·exact L
      ·exact L
      ·exact L
      ·exact L
      ·apply Exists.intro
       simp only [*, AVB, ↓reduceIte]
       rfl
      ·have hm2 : m < Y.length := HM
       simp only [slotI, *, AVB, ↓reduceIte]
       omega
     rw [if_neg k8] at hO3
     by_cases k10 : S.kd = 10
     ·rw [if_pos k10] at hO3
      generalize S.kd = kd at *
      subst k10
      have HO3 := Hd.mk (show R = sumF o (IntKind.i64.wrap (u0 + g0), IntKind.i64.wrap (u1 + g1), IntKind.i64.wrap (u2 + g2)) (Y.drop (m + 1) ++ (X.drop (k + 1)).flatMap cpL) from by rw [hO3])
      clear hO3 k4 k7 k3 k5 k6 k11 k12 k1 k13 k8
      refine Gq ?_
      refine hn2 _ ⟨m + 1, (IntKind.i64.wrap (u0 + g0), IntKind.i64.wrap (u1 + g1), IntKind.i64.wrap (u2 + g2)), q1, q2, HM, ?_, ?_, ?_, ?_, ?_, ?_, ?_, ?_, HO3⟩ ?_
      ·exact L
      ·exact L
      ·exact L
      ·exact L
      ·exact L
      ·exact L
      ·exact L
      ·apply Exists.intro
       simp only [*, AVB, ↓reduceIte]
       rfl
      ·have hm2 : m < Y.length := HM
       simp only [slotI, *, AVB, ↓reduceIte]
       omega
     rw [if_neg k10] at hO3
     have n4 := (neI k4).1
     have n7 := (neI k7).1
     have n3 := (neI k3).1
     have n5 := (neI k5).1
     have n6 := (neI k6).1
     have n11 := (neI k11).1
     have n12 := (neI k12).1
     have n1 := (neI k1).1
     have n13 := (neI k13).1
     have n8 := (neI k8).1
     have n10 := (neI k10).1
     clear k4 k7 k3 k5 k6 k11 k12 k1 k13 k8 k10
     have HO3 := Hd.mk (show R = sumF o (IntKind.i64.wrap (u0 + 0), IntKind.i64.wrap (u1 + 0), IntKind.i64.wrap (u2 + 0)) (Y.drop (m + 1) ++ (X.drop (k + 1)).flatMap cpL) from by rw [hO3])
     clear hO3
     refine Gq ?_
     refine hn2 _ ⟨m + 1, (IntKind.i64.wrap (u0 + 0), IntKind.i64.wrap (u1 + 0), IntKind.i64.wrap (u2 + 0)), q1, q2, HM, ?_, ?_, ?_, ?_, ?_, ?_, ?_, ?_, HO3⟩ ?_
     ·exact L
     ·exact L
     ·exact L
     ·exact L
     ·exact L
     ·exact L
     ·exact L
     ·apply Exists.intro
      simp only [*, AVB, ↓reduceIte]
      rfl
     ·have hm2 : m < Y.length := HM
      simp only [slotI, *, AVB, ↓reduceIte]
      omega
    ·have k10 : ¬ (m : Int) < Y.length := by omega
     rw [List.drop_eq_nil_of_le (by omega), List.nil_append] at hO3
     have hk2 : k < X.length := HK
     have HO3 := Hd.mk hO3
     clear hO2 hO3 hn2 hr2 h hyl
     refine Gq ?_
     refine hx2 _ _ ?_
     refine Gq ?_
     refine hn _ ⟨k + 1, (u0, u1, u2), q1, q2, hk2, L, L, L, L, L, L, ⟨q3, L⟩, HO3⟩ ?_
     ·have g4 : st.slot 4 = .int .i64 k := G4
      simp only [slotI, *, AVB, ↓reduceIte]
      omega
  ·have k9 : ¬ (k : Int) < X.length := by omega
   rw [List.drop_eq_nil_of_le (by omega)] at hO'
   have hO2 : R = b := hO'
   subst hO2
   clear hO hO' hn hr hRe h hxl
   refine Gq ?_
   exact hx _ _ Wq
end Go.Av
namespace Go.Av
open Go.Proofs
variable [Rk] {chk : List D → Bool}
set_option maxHeartbeats 1000000 in
theorem rpseudo_L {k : Nat} (c : D) (h : cxOk 100 (smOk 100 (k + 1)) c = true) : callL Tryz.prog (ext11b chk) 46 [c] [] = some (.str (pseudoF c), [.no], []) := by
 obtain ⟨l, rfl, hl, hx⟩ := cxOk_inv h
 unfold pseudoF cxD cxL
 dsimp only
 cases hL : l.getLast? with
 | none =>
  rw [List.getLast?_eq_none_iff] at hL
  subst hL
  clear hx hl h
  exact cWy 44 2 Tryz.func46
 | some x =>
  obtain ⟨cc, sl, rfl, hsl, hs⟩ := cpOk_inv (hx x (List.mem_of_getLast? hL))
  obtain ⟨hg, h0⟩ := last_getD hL
  have h0' := ne0 h0
  have hw := wrapL (by omega) h0
  have hlt : ((l.length - 1 : Nat) : Int) < l.length := by omega
  have hge : (0 : Int) ≤ ((l.length - 1 : Nat) : Int) := by omega
  clear hL hx h hl
  unfold cpD at hg ⊢
  simp only [cpL]
  cases hS : sl.getLast? with
  | none =>
   rw [List.getLast?_eq_none_iff] at hS
   subst hS
   clear hs hsl
   exact cWy 44 2 Tryz.func46
  | some s =>
   obtain ⟨e, _⟩ := smOk_inv (hs s (List.mem_of_getLast? hS))
   obtain ⟨sg, s0⟩ := last_getD hS
   have s0' := ne0 s0
   have sw := wrapL (by omega) s0
   have slt : ((sl.length - 1 : Nat) : Int) < sl.length := by omega
   have sge : (0 : Int) ≤ ((sl.length - 1 : Nat) : Int) := by omega
   rw [e] at sg
   show callL Tryz.prog (ext11b chk) 46 [.agg [.list l]] [] = some (.str (if (sf s).kd = 13 then (sf s).nm else []), [.no], [])
   clear hS hs hsl
   generalize sf s = S at *
   clear e
   unfold Sf.d at sg
   by_cases hk : S.kd = 13
   ·rw [if_pos hk]
    obtain ⟨k1, k2, k3⟩ := eqI hk
    clear hk
    exact cWy 44 2 Tryz.func46
   ·rw [if_neg hk]
    obtain ⟨k1, k2, k3⟩ := neI hk
    clear hk
    exact cWy 44 2 Tryz.func46
def slotP (s : St) (j : Nat) : Nat := match s.slot j with | .int _ i => (i + 1).toNat | _ => 0
theorem nd_at {ns : List Nd} {n : Int} (he : elB ns n = true) : ∃ (i : Nat) (x : Nd), n = (i : Int) ∧ i < ns.length ∧ ns[i]? = some x ∧ pAt ns i = x.p ∧ kAt ns i = x.k ∧ (ns.map Nd.d).getD i .bad = .agg [.int .i64 x.p, .int .i64 x.k, .str x.sp, .str x.nm, .list (x.at_.map At.d), .list (x.st.map .str), .str x.tx] := by
 obtain ⟨h0, h1, hk⟩ := elB_nat he
 obtain ⟨x, hx⟩ := some_at (show n.toNat < ns.length by omega)
 refine ⟨n.toNat, x, by omega, by omega, hx, by unfold pAt; rw [hx], by unfold kAt; rw [hx], ?_⟩
 have := getD_map (f := Nd.d) hx
 rw [ndat] at this
 exact this
set_option maxHeartbeats 8000000 in
theorem stands1_L (ns : List Nd) (a b : Int) (hS : ns.length ≤ 10000) (hR : RightT ns) (hb : elB ns b = true) :
  callL Tryz.prog (ext11b chk) 47 [.list (ns.map Nd.d), .int .i64 a, .int .i64 b, .int .i64 1] [] = some (.bool ((upsI ns (b.toNat + 1) b).any (· == a)), [.no], []) := by
 obtain ⟨R, hRe⟩ : ∃ R, Hd (R = (upsI ns (b.toNat + 1) b).any (· == a)) := ⟨_, rfl⟩
 rw [← (show R = (upsI ns (b.toNat + 1) b).any (· == a) from hRe)]
 have lN := lenM ns Nd.d
 obtain ⟨i, x, rfl, hi, hx, hp, hk, hg⟩ := nd_at hb
 have g1 : (i : Int) < ns.length := by omega
 have HB := Hd.mk hb
 have HS := Hd.mk hS
 have HP := Hd.mk hp
 have HR := Hd.mk hR
 clear hb hS hp hR hx hk
 generalize x.at_.map At.d = XA at *
 generalize x.st.map D.str = XS at *
 refine cK 73 8 Tryz.func47 ?_
 refine Gy ?_
 clear hg g1
 refine loopH (fun st => ∃ (m : Int) (f : Nat), elB ns m = true ∧ st.slot 9 = .int .i64 (pAt ns m.toNat) ∧ st.slot 0 = .list (ns.map Nd.d) ∧ st.slot 1 = .int .i64 a ∧ m.toNat ≤ f ∧ Hd (R = (upsI ns (f + 1) m).any (· == a))) (fun st => slotP st 9) ?_ ?_
 ·have hp : pAt ns i = x.p := HP
  refine ⟨(i : Int), i, HB, ?_, ?_, ?_, by simp, hRe⟩
  all_goals simp only [*, Int.toNat_natCast, AVB, AVY, ↓reduceIte, Nat.reduceEqDiff, Nat.reduceLT, Nat.reduceLeDiff, reduceCtorEq, Nat.reduceBEq, String.reduceBEq, Nat.reduceAdd, Nat.reduceSub, Nat.reduceMul, Int.reduceLE, Int.reduceLT, Int.reduceToNat, Int.reduceBEq, Int.reduceBNe, List.zipWith, dIntBin]
  all_goals rfl
 ·rintro st K ⟨m, f, hm, g9, g0, g1, hf, hO⟩ hn hx hr
  have hO' : R = (upsI ns (f + 1) m).any (· == a) := hO
  have hS : ns.length ≤ 10000 := HS
  by_cases h0 : 0 ≤ pAt ns m.toNat
  ·have hpar : parI ns m = (pAt ns m.toNat, true) := by
    unfold parI
    rw [if_pos ⟨hm, h0⟩]
   rw [upsI, if_pos (by rw [hpar]), hpar] at hO'
   obtain ⟨h3, h4⟩ := (show RightT ns from HR).par m hm (by rw [hpar])
   rw [hpar] at h3 h4
   dsimp only at hO' h3 h4
   rw [List.any_cons] at hO'
   obtain ⟨j, y, hj, hjl, hy, hp2, hk2, hg2⟩ := nd_at h3
   rw [hj] at hO' h3 h4 g9 h0
   have k1 : (j : Int) < ns.length := by omega
   obtain ⟨f', rfl⟩ : ∃ f', f = f' + 1 := ⟨f - 1, by have := (elB_nat hm).1; omega⟩
   have hfj : j ≤ f' := by have := (elB_nat hm).1; omega
   generalize y.at_.map At.d = YA at *
   generalize y.st.map D.str = YS at *
   cases hq : ((j : Int) == a) with
   | true =>
    rw [hq, Bool.true_or] at hO'
    subst hO'
    clear hn hx hO hm hS hRe hpar h3 h4 hj hy hp2 hk2
    refine Gy ?_
    exact hr _ Wy
   | false =>
    rw [hq, Bool.false_or] at hO'
    have HO := Hd.mk hO'
    have HP2 := Hd.mk hp2
    have H3 := Hd.mk h3
    have HY := Hd.mk (show y.p < (j : Int) ∨ y.p < 0 from by
     by_cases e : 0 ≤ pAt ns j
     ·have hp3 : parI ns (j : Int) = (pAt ns j, true) := by
       unfold parI
       rw [Int.toNat_natCast, if_pos ⟨h3, e⟩]
      obtain ⟨_, h6⟩ := (show RightT ns from HR).par (j : Int) h3 (by rw [hp3])
      rw [hp3] at h6
      dsimp only at h6
      omega
     ·omega)
    clear hr hx hO hO' hm hS hRe hpar h3 h4 hj hy hp2 hk2
    refine Gy ?_
    refine hn _ ⟨(j : Int), f', H3, ?_, ?_, ?_, by simpa using hfj, HO⟩ ?_
    ·rw [Int.toNat_natCast, show pAt ns j = y.p from HP2]
     simp only [*, AVB, AVY, ↓reduceIte, Nat.reduceEqDiff, Nat.reduceLT, Nat.reduceLeDiff, reduceCtorEq, Nat.reduceBEq, String.reduceBEq, Nat.reduceAdd, Nat.reduceSub, Nat.reduceMul, Int.reduceLE, Int.reduceLT, Int.reduceToNat, Int.reduceBEq, Int.reduceBNe, List.zipWith, dIntBin]
    ·exact L
    ·exact L
    ·have hyy : y.p < (j : Int) ∨ y.p < 0 := HY
     simp only [slotP, *, AVB, AVY, ↓reduceIte, Nat.reduceEqDiff, Nat.reduceLT, Nat.reduceLeDiff, reduceCtorEq, Nat.reduceBEq, String.reduceBEq, Nat.reduceAdd, Nat.reduceSub, Nat.reduceMul, Int.reduceLE, Int.reduceLT, Int.reduceToNat, Int.reduceBEq, Int.reduceBNe, List.zipWith, dIntBin]
     omega
  ·have hpar : (parI ns m).2 = false := by
    unfold parI
    rw [if_neg (fun h => h0 h.2)]
   rw [upsI, if_neg (by rw [hpar]; decide)] at hO'
   have hO2 : R = false := hO'
   subst hO2
   clear hn hr hO hO' hm hS hRe hpar
   refine Gy ?_
   exact hx _ _ Wy
end Go.Av
namespace Go.Av
open Go.Proofs
variable [Rk] {chk : List D → Bool}
def roomOf (l : List Int) : Room := if l = [] then .full else .own 3
theorem room_ok (l : List Int) : roomOf l = .full ∨ roomOf l = .own 3 ∨ roomOf l = .fresh := by
 unfold roomOf
 split
 ·exact .inl rfl
 ·exact .inr (.inl rfl)
theorem room_app (l : List Int) (z : Int) : roomOf (l ++ [z]) = .own 3 := by simp [roomOf]
theorem sz1b (l : List Int) : szOk 1 (l.map (D.int .i64)) = true := by cases l <;> rfl
set_option maxHeartbeats 8000000 in
theorem rrow_L (ns : List Nd) (n : Int) (hS : ns.length ≤ 10000) : callL Tryz.prog (ext11b chk) 77 [.list (ns.map Nd.d), .int .i64 n] [] = some (.list ((rowI ns n).map (.int .i64)), [roomOf (rowI ns n)], []) := by
 have hE := relem_L (chk := chk) ns n
 have lN := lenM ns Nd.d
 unfold rowI
 cases he : elB ns n with
 | false =>
  rw [he] at hE
  rw [if_neg (by simp)]
  have hr0 : roomOf [] = .full := rfl
  clear he hS
  refine cK 42 4 Tryz.func77 ?_
  refine G ?_
  refine loopH (fun st => st.slot 0 = .list (ns.map Nd.d) ∧ st.slot 1 = .int .i64 n ∧ st.slot 6 = .int .i64 0 ∧ st.slot 5 = .list [] ∧ st.room 5 = [.full]) (fun st => 0) ?_ ?_
  ·exact ⟨I, I, I, I, I⟩
  ·rintro st K ⟨g0, g1, g6, g5, r5⟩ hn hx hr
   clear hn hr
   refine G ?_
   exact hx _ _ W
 | true =>
  rw [he] at hE
  obtain ⟨i, rfl, hi, hk⟩ := elB_at (ns := ns) (n := n) he
  obtain ⟨x, hx⟩ := some_at hi
  have ha := getD_map (f := Nd.d) hx
  rw [ndat] at ha
  have g9 : (i : Int) < ns.length := by omega
  have tn : (i : Int).toNat = i := by omega
  have hp : pAt ns i = x.p := by unfold pAt; rw [hx]
  rw [if_pos rfl, tn, hp]
  have HI := Hd.mk hi
  have HS := Hd.mk hS
  clear hk he hx hp hi hS
  generalize x.at_.map At.d = LA at *
  generalize x.st.map D.str = LS at *
  generalize x.k = xk at *
  generalize x.sp = xsp at *
  generalize x.nm = xnm at *
  generalize x.tx = xtx at *
  generalize x.p = key at *
  refine cK 42 4 Tryz.func77 ?_
  refine G ?_
  refine loopH (fun st => ∃ m : Nat, m ≤ i + 1 ∧ st.slot 6 = .int .i64 m ∧ st.slot 0 = .list (ns.map Nd.d) ∧ st.slot 1 = .int .i64 i ∧ st.slot 5 = .list ((rowL ns key m).map (.int .i64)) ∧ st.room 5 = [roomOf (rowL ns key m)]) (fun st => i + 1 - slotI st 6) ?_ ?_
  ·exact ⟨0, Nat.zero_le _, I, I, I, I, I⟩
  ·rintro st K ⟨m, hm, g6, g0, g1, g5, r5⟩ hn hx hr
   have hi : i < ns.length := HI
   have hS : ns.length ≤ 10000 := HS
   by_cases h : m < i + 1
   ·have gm : (m : Int) ≤ i := by omega
    have gm2 : (m : Int) < ns.length := by omega
    have hw := wrapS m (by omega)
    obtain ⟨y, hy⟩ := some_at (show m < ns.length by omega)
    have hb := getD_map (f := Nd.d) hy
    rw [ndat] at hb
    have hpk : kAt ns m = y.k ∧ pAt ns m = y.p := by unfold kAt pAt; rw [hy]; exact ⟨rfl, rfl⟩
    have hrl := rowL_len (ns := ns) (key := key) (m := m)
    have hro := room_ok (rowL ns key m)
    have hra := room_app (rowL ns key m) m
    have hsz := sz1b (rowL ns key m)
    have hs1 : szOk 1 [D.int .i64 (m : Int)] = true := rfl
    have hl1 : ((rowL ns key m).map (D.int .i64)).length + 1 ≤ 1073741824 := by rw [List.length_map]; omega
    have hl2 : ((rowL ns key m).map (D.int .i64)).length ≤ 1073741823 := by rw [List.length_map]; omega
    have hre : rowL ns key (m + 1) = if y.k = 1 ∧ y.p = key then rowL ns key m ++ [(m : Int)] else rowL ns key m := by rw [rowL, hpk.1, hpk.2]
    clear hy hpk hrl hi hS hx hr
    generalize y.at_.map At.d = YA at *
    generalize y.st.map D.str = YS at *
    generalize y.k = yk at *
    generalize y.p = yp at *
    by_cases c1 : yk = 1
    ·by_cases c2 : yp = key
     ·rw [if_pos ⟨c1, c2⟩] at hre
      subst c1 c2
      repeat' (first|simp only [*, AVB, ↓reduceIte, Nat.reduceEqDiff, Nat.reduceLT, reduceCtorEq, Nat.reduceBEq, Nat.reduceAdd, dIntBin]|refine drW_intro (by kernel_rfl) ?_)
      refine hn _ ⟨m + 1, h, ?_, ?_, ?_, ?_, ?_⟩ ?_
      ·exact L
      ·exact L
      ·exact L
      ·simp only [*, List.map_append, AVB, ↓reduceIte, Nat.reduceEqDiff]
      ·exact L
      ·have hgt : m < i + 1 := h
       simp only [slotI, *, AVB, ↓reduceIte]
       omega
     ·rw [if_neg (fun h => c2 h.2)] at hre
      have b2 : (yp == key) = false := by simpa using c2
      subst c1
      clear c2 hra hs1 hl1 hl2 hsz hro
      repeat' (first|simp only [*, AVB, ↓reduceIte, Nat.reduceEqDiff, Nat.reduceLT, reduceCtorEq, Nat.reduceBEq, Nat.reduceAdd, dIntBin]|refine drW_intro (by kernel_rfl) ?_)
      refine hn _ ⟨m + 1, h, ?_, ?_, ?_, ?_, ?_⟩ ?_
      ·exact L
      ·exact L
      ·exact L
      ·simp only [*, AVB, ↓reduceIte, Nat.reduceEqDiff]
      ·exact L
      ·have hgt : m < i + 1 := h
       simp only [slotI, *, AVB, ↓reduceIte]
       omega
    ·rw [if_neg (fun h => c1 h.1)] at hre
     have b1 : (yk == 1) = false := by simpa using c1
     clear c1 hra hs1 hl1 hl2 hsz hro
     repeat' (first|simp only [*, AVB, ↓reduceIte, Nat.reduceEqDiff, Nat.reduceLT, reduceCtorEq, Nat.reduceBEq, Nat.reduceAdd, dIntBin]|refine drW_intro (by kernel_rfl) ?_)
     refine hn _ ⟨m + 1, h, ?_, ?_, ?_, ?_, ?_⟩ ?_
     ·exact L
     ·exact L
     ·exact L
     ·simp only [*, AVB, ↓reduceIte, Nat.reduceEqDiff]
     ·exact L
     ·have hgt : m < i + 1 := h
      simp only [slotI, *, AVB, ↓reduceIte]
      omega
   ·obtain rfl : m = i + 1 := by omega
    have gm : ¬ ((i + 1 : Nat) : Int) ≤ i := by omega
    clear hn hr hi hS h
    refine G ?_
    exact hx _ _ W
end Go.Av
namespace Go.Av
open Go.Proofs
variable [Rk] {chk : List D → Bool}
theorem row_snoc {ns : List Nd} {n : Int} (he : elB ns n = true) : rowI ns n = rowL ns (pAt ns n.toNat) n.toNat ++ [n] := by
 obtain ⟨h0, h1, hk⟩ := elB_nat he
 unfold rowI
 rw [if_pos he, rowL_succ hk]
 rw [show ((n.toNat : Nat) : Int) = n by omega]
set_option maxHeartbeats 8000000 in
theorem stands2_L (ns : List Nd) (a b : Int) (hb : elB ns b = true) (ha : 0 ≤ a) :
  callL Tryz.prog (ext11b chk) 47 [.list (ns.map Nd.d), .int .i64 a, .int .i64 b, .int .i64 2] [] = some (.bool ((parI ns b).2 && (parI ns b).1 == a), [.no], []) := by
 have lN := lenM ns Nd.d
 have hv : ((parI ns b).2 && (parI ns b).1 == a) = (pAt ns b.toNat == a) := by
  unfold parI
  by_cases h : 0 ≤ pAt ns b.toNat
  ·rw [if_pos ⟨hb, h⟩]; simp
  ·rw [if_neg (fun e => h e.2)]
   have : (pAt ns b.toNat == a) = false := by rw [beq_eq_false_iff_ne]; omega
   rw [this]; rfl
 rw [hv]
 obtain ⟨i, x, rfl, hi, hx, hp, hk, hg⟩ := nd_at hb
 have g1 : (i : Int) < ns.length := by omega
 rw [Int.toNat_natCast, hp]
 clear hx hk hv hb hp
 generalize x.at_.map At.d = XA at *
 generalize x.st.map D.str = XS at *
 exact cWy 73 8 Tryz.func47
set_option maxHeartbeats 8000000 in
theorem stands3_L (ns : List Nd) (a b : Int) (hS : ns.length ≤ 10000) (hb : elB ns b = true) :
  callL Tryz.prog (ext11b chk) 47 [.list (ns.map Nd.d), .int .i64 a, .int .i64 b, .int .i64 3] [] = some (.bool ((ahdI ns b).2 && (ahdI ns b).1 == a), [.no], []) := by
 have hr := rrow_L (chk := chk) ns b hS
 have hs := row_snoc hb
 have hlen := rowL_len (ns := ns) (key := pAt ns b.toNat) (m := b.toNat)
 have hbl : b.toNat ≤ 10000 := by have := (elB_nat hb).2.1; omega
 unfold ahdI
 rw [if_pos hb]
 rw [hs] at hr
 generalize rowL ns (pAt ns b.toNat) b.toNat = P at *
 generalize roomOf (P ++ [b]) = rm at *
 generalize ns.map Nd.d = L at *
 clear hs hb hS
 have lN := lenM (P ++ [b]) (D.int .i64)
 have hl2 : ((P ++ [b]).length : Int) = P.length + 1 := by simp
 cases hL : P.getLast? with
 | none =>
  rw [List.getLast?_eq_none_iff] at hL
  subst hL
  have g1 : ¬ (1 : Int) < ((([] : List Int) ++ [b]).length : Int) := by simp
  dsimp only
  rw [Bool.false_and]
  clear hl2 hlen hbl
  generalize ([] : List Int) ++ [b] = Q at *
  exact cWy 73 8 Tryz.func47
 | some z =>
  have hp0 : P.length ≠ 0 := by rintro e; rw [List.eq_nil_of_length_eq_zero e] at hL; simp at hL
  have g1 : (1 : Int) < ((P ++ [b]).length : Int) := by omega
  have hw : IntKind.i64.wrap (((P ++ [b]).length : Int) - 2) = ((P.length - 1 : Nat) : Int) := by rw [hl2, wrap64 _ (by omega) (by omega)]; omega
  have g2 : ((P.length - 1 : Nat) : Int) < ((P ++ [b]).length : Int) := by omega
  have g3 : (0 : Int) ≤ ((P.length - 1 : Nat) : Int) := by omega
  have hg : ((P ++ [b]).map (D.int .i64)).getD (P.length - 1) .bad = .int .i64 z := by
   rw [List.getLast?_eq_getElem?] at hL
   have : (P ++ [b])[P.length - 1]? = some z := by rw [List.getElem?_append_left (by omega)]; exact hL
   exact getD_map (f := D.int .i64) this
  dsimp only
  rw [Bool.true_and]
  clear hl2 hlen hbl hL hp0
  generalize P.length - 1 = k at *
  generalize P ++ [b] = Q at *
  exact cWy 73 8 Tryz.func47
set_option maxHeartbeats 8000000 in
theorem stands4_L (ns : List Nd) (a b comb : Int) (hS : ns.length ≤ 10000) (hb : elB ns b = true) (h1 : comb ≠ 1) (h2 : comb ≠ 2) (h3 : comb ≠ 3) :
  callL Tryz.prog (ext11b chk) 47 [.list (ns.map Nd.d), .int .i64 a, .int .i64 b, .int .i64 comb] [] = some (.bool (comb == 4 && (rowI ns b).dropLast.any (· == a)), [.no], []) := by
 have hr := rrow_L (chk := chk) ns b hS
 have hs := row_snoc hb
 have hlen := rowL_len (ns := ns) (key := pAt ns b.toNat) (m := b.toNat)
 have hbl : b.toNat ≤ 10000 := by have := (elB_nat hb).2.1; omega
 have hd : (rowI ns b).dropLast = rowL ns (pAt ns b.toNat) b.toNat := by rw [hs]; simp
 rw [hd]
 rw [hs] at hr
 clear hd hs hS hb
 generalize rowL ns (pAt ns b.toNat) b.toNat = P at *
 generalize roomOf (P ++ [b]) = rm at *
 generalize ns.map Nd.d = L at *
 have lN := lenM (P ++ [b]) (D.int .i64)
 have hw : IntKind.i64.wrap (((P ++ [b]).length : Int) - 1) = (P.length : Int) := by
  have : ((P ++ [b]).length : Int) = P.length + 1 := by simp
  rw [this, wrap64 _ (by omega) (by omega)]; omega
 have hg : ∀ (i : Nat) (z : Int), P[i]? = some z → ((P ++ [b]).map (D.int .i64)).getD i .bad = .int .i64 z ∧ (i : Int) < ((P ++ [b]).length : Int) := fun i z h => by
  have hi := (List.getElem?_eq_some_iff.1 h).1
  refine ⟨getD_map (f := D.int .i64) (by rw [List.getElem?_append_left hi]; exact h), by simp; omega⟩
 have HG := Hd.mk hg
 have HL := Hd.mk (show P.length ≤ 10000 by omega)
 clear hg hlen hbl
 generalize P ++ [b] = Q at *
 obtain ⟨i1, i2, i3⟩ := neI h1
 obtain ⟨j1, j2, j3⟩ := neI h2
 obtain ⟨l1, l2, l3⟩ := neI h3
 clear h1 h2 h3
 obtain ⟨R, hRe⟩ : ∃ R, Hd (R = (comb == 4 && P.any (· == a))) := ⟨_, rfl⟩
 rw [← (show R = (comb == 4 && P.any (· == a)) from hRe)]
 refine cK 73 8 Tryz.func47 ?_
 refine Gy ?_
 clear hr i1 i2 i3 j1 j2 j3 l1 l2 l3
 refine loopH (fun st => ∃ i : Nat, i ≤ P.length ∧ st.slot 11 = .int .i64 i ∧ st.slot 10 = .list (Q.map (D.int .i64)) ∧ st.slot 1 = .int .i64 a ∧ st.slot 3 = .int .i64 comb ∧ Hd (R = (comb == 4 && (P.drop i).any (· == a)))) (fun st => P.length - slotI st 11) ?_ ?_
 ·exact ⟨0, Nat.zero_le _, Iy, Iy, Iy, Iy, hRe⟩
 ·rintro st K ⟨i, hi, g11, g10, g1, g3, hO⟩ hn hx hr
  have hO' : R = (comb == 4 && (P.drop i).any (· == a)) := hO
  have hl : P.length ≤ 10000 := HL
  by_cases h : i < P.length
  ·have k9 : (i : Int) < P.length := by omega
   have hw2 := wrapS i (by omega)
   obtain ⟨z, hz⟩ := some_at h
   obtain ⟨q1, q2⟩ := (show ∀ (i : Nat) (z : Int), P[i]? = some z → _ from HG) i z hz
   rw [any_drop _ hz] at hO'
   cases hza : (z == a) with
   | true =>
    rw [hza, Bool.true_or, Bool.and_true] at hO'
    cases h4 : (comb == 4) with
    | true =>
     rw [h4] at hO'
     subst hO'
     clear hn hx hO hRe hz hl h
     refine Gy ?_
     exact hr _ Wy
    | false =>
     rw [h4] at hO'
     have HO := Hd.mk (show R = (comb == 4 && (P.drop (i + 1)).any (· == a)) by rw [h4]; exact hO')
     clear hr hx hO hO' hRe hz hl
     refine Gy ?_
     refine hn _ ⟨i + 1, h, ?_, ?_, ?_, ?_, HO⟩ ?_
     ·simp only [*, AVL, ↓reduceIte, Nat.reduceEqDiff, Nat.reduceLT, Nat.reduceLeDiff, reduceCtorEq]
     ·simp only [*, AVL, ↓reduceIte, Nat.reduceEqDiff, Nat.reduceLT, Nat.reduceLeDiff, reduceCtorEq]
     ·simp only [*, AVL, ↓reduceIte, Nat.reduceEqDiff, Nat.reduceLT, Nat.reduceLeDiff, reduceCtorEq]
     ·simp only [*, AVL, ↓reduceIte, Nat.reduceEqDiff, Nat.reduceLT, Nat.reduceLeDiff, reduceCtorEq]
     ·exact Zy
   | false =>
    rw [hza, Bool.false_or] at hO'
    have HO := Hd.mk hO'
    clear hr hx hO hO' hRe hz hl
    refine Gy ?_
    refine hn _ ⟨i + 1, h, ?_, ?_, ?_, ?_, HO⟩ ?_
    ·simp only [*, AVL, ↓reduceIte, Nat.reduceEqDiff, Nat.reduceLT, Nat.reduceLeDiff, reduceCtorEq]
    ·simp only [*, AVL, ↓reduceIte, Nat.reduceEqDiff, Nat.reduceLT, Nat.reduceLeDiff, reduceCtorEq]
    ·simp only [*, AVL, ↓reduceIte, Nat.reduceEqDiff, Nat.reduceLT, Nat.reduceLeDiff, reduceCtorEq]
    ·simp only [*, AVL, ↓reduceIte, Nat.reduceEqDiff, Nat.reduceLT, Nat.reduceLeDiff, reduceCtorEq]
    ·exact Zy
  ·have k9 : ¬ (i : Int) < P.length := by omega
   rw [any_end _ (by omega), Bool.and_false] at hO'
   subst hO'
   clear hn hr hO hRe hl h
   refine Gy ?_
   exact hx _ _ Wy
theorem stands_L (ns : List Nd) (a b comb : Int) (hS : ns.length ≤ 10000) (hR : RightT ns) (hb : elB ns b = true) (ha : 0 ≤ a) :
  callL Tryz.prog (ext11b chk) 47 [.list (ns.map Nd.d), .int .i64 a, .int .i64 b, .int .i64 comb] [] = some (.bool (standsF ns (b.toNat + 1) a b comb), [.no], []) := by
 unfold standsF
 by_cases h2 : comb = 2
 ·subst h2; rw [if_pos rfl]; exact stands2_L ns a b hb ha
 rw [if_neg h2]
 by_cases h1 : comb = 1
 ·subst h1; rw [if_pos rfl]; exact stands1_L ns a b hS hR hb
 rw [if_neg h1]
 by_cases h3 : comb = 3
 ·subst h3; rw [if_pos rfl]; exact stands3_L ns a b hS hb
 rw [if_neg h3]
 exact stands4_L ns a b comb hS hb h1 h2 h3
end Go.Av
namespace Go.Av
open Go.Proofs
variable [Rk] {chk : List D → Bool}
theorem nd_any {ns : List Nd} {i : Nat} (hi : i < ns.length) : ∃ x : Nd, ns[i]? = some x ∧ kAt ns i = x.k ∧ (ns.map Nd.d).getD i .bad = .agg [.int .i64 x.p, .int .i64 x.k, .str x.sp, .str x.nm, .list (x.at_.map At.d), .list (x.st.map .str), .str x.tx] := by
 obtain ⟨x, hx⟩ := some_at hi
 refine ⟨x, hx, by unfold kAt; rw [hx], ?_⟩
 have := getD_map (f := Nd.d) hx
 rw [ndat] at this
 exact this
theorem all_drop {α : Type} {xs : List α} {i : Nat} {x : α} (f : α → Bool) (hx : xs[i]? = some x) : (xs.drop i).all f = (f x && (xs.drop (i + 1)).all f) := by
 rw [drop_at hx, List.all_cons]
theorem all_end {α : Type} {xs : List α} {i : Nat} (f : α → Bool) (h : xs.length ≤ i) : (xs.drop i).all f = true := by
 rw [List.drop_eq_nil_of_le h]
 rfl
def fitK (p : Int → Bool) (k : Nat) : List Int := ((List.range k).map (Int.ofNat ·)).filter p
theorem fitK_succ (p : Int → Bool) (k : Nat) : fitK p (k + 1) = fitK p k ++ (if p (k : Int) = true then [(k : Int)] else []) := by
 unfold fitK
 rw [List.range_succ, List.map_append, List.filter_append]
 congr 1
 show List.filter p [Int.ofNat k] = _
 by_cases h : p (k : Int) = true
 ·rw [if_pos h]; exact List.filter_cons_of_pos (by exact h)
 ·rw [if_neg h]; exact List.filter_cons_of_neg (by exact h)
def fitP (S : D → Int → Bool) (ns : List Nd) (first : Bool) (fit : List Int) (cc : Int) (sl : List D) (k : Int) : Bool := kAt ns k.toNat == 1 && sl.all (S · k) && (first || fit.any fun m => standsF ns (k.toNat + 1) m k cc)
theorem fitStep_K (S : D → Int → Bool) (ns : List Nd) (node : Nat) (first : Bool) (fit : List Int) (cc : Int) (sl : List D) : fitStep S ns node first fit (.agg [.int .i64 cc, .list sl]) = fitK (fitP S ns first fit cc sl) (node + 1) := rfl
theorem fitK_ok (p : Int → Bool) (k : Nat) : (fitK p k).length ≤ k ∧ ∀ m ∈ fitK p k, 0 ≤ m := by
 unfold fitK
 refine ⟨Nat.le_trans (List.length_filter_le _ _) (by simp), fun m hm => ?_⟩
 have := (List.mem_filter.1 hm).1
 obtain ⟨j, _, rfl⟩ := List.mem_map.1 this
 exact Int.natCast_nonneg j
theorem getLast_map (l : List Int) (h : l ≠ []) : ∃ z, l.getLast? = some z ∧ (l.map (D.int .i64)).getD (l.length - 1) .bad = .int .i64 z := by
 cases hL : l.getLast? with
 | none => rw [List.getLast?_eq_none_iff] at hL; exact absurd hL h
 | some z =>
  rw [List.getLast?_eq_getElem?] at hL
  exact ⟨z, rfl, getD_map (f := D.int .i64) hL⟩
set_option maxHeartbeats 32000000 in
theorem rcomplex_L (ns : List Nd) (nm : Nam) (X : List D) (node : Nat) (hS : ns.length ≤ 10000) (hR : RightT ns) (he : elB ns node = true) (S : D → Int → Bool) (hX0 : X ≠ []) (hXl : X.length ≤ 100)
  (hX : ∀ x ∈ X, x = .agg [.int .i64 (cpC x), .list (cpL x)] ∧ (cpL x).length ≤ 100 ∧ ∀ s ∈ cpL x, s = (sf s).d ∧ ∀ j, elB ns j = true → callL Tryz.prog (ext11b chk) 18 [.list (ns.map Nd.d), (sf s).d, .agg nm.cs, .int .i64 j] [] = some (.bool (S s j), [.no], []))
  (ps : List UInt8) (hp : callL Tryz.prog (ext11b chk) 46 [.agg [.list X]] [] = some (.str ps, [.no], [])) :
  callL Tryz.prog (ext11b chk) 21 [.list (ns.map Nd.d), .agg [.list X], .agg nm.cs, .agg [.int .i64 (node : Int), .str ps]] [] = some (.bool ((fitAll S ns node true [] X).getLast? == some (node : Int)), [.no], []) := by
 have hE := relem_L (chk := chk) ns node
 rw [he] at hE
 have lN := lenM ns Nd.d
 have hnode := (elB_nat he).2.1
 have hst : ∀ a b comb : Int, elB ns b = true → 0 ≤ a → _ := fun a b comb h1 h2 => stands_L (chk := chk) ns a b comb hS hR h1 h2
 have HST := Hd.mk hst
 have HX := Hd.mk hX
 have HS := Hd.mk hS
 have HXL := Hd.mk hXl
 have HND := Hd.mk hnode
 have hna : ∀ i, i < ns.length → _ := fun i hi => nd_any (ns := ns) (i := i) hi
 have HNA := Hd.mk hna
 have hx0 : ((X.length : Int) == 0) = false := ne0 (fun e => hX0 (List.eq_nil_of_length_eq_zero e))
 clear hst hX hX0 hXl hR he hna hnode hS
 unfold Nam.cs at *
 obtain ⟨R, hRe⟩ : ∃ R, Hd (R = ((fitAll S ns node true [] X).getLast? == some (node : Int))) := ⟨_, rfl⟩
 rw [← (show R = ((fitAll S ns node true [] X).getLast? == some (node : Int)) from hRe)]
 refine cK 134 8 Tryz.func21 ?_
 refine Qy ?_
 clear hx0 hE hp
 refine loopH (fun st => ∃ (i : Nat) (fit : List Int) (r5 r6 r7 : List Room), i ≤ X.length ∧ st.slot 10 = .int .i64 i ∧ st.slot 0 = .list (ns.map Nd.d) ∧ st.slot 5 = .ptr 5 1 0 ∧ st.box 5 = some ⟨1, [.list X], r5⟩ ∧ st.slot 6 = .ptr 6 1 0 ∧ st.box 6 = some ⟨1, [.bool nm.has, .str nm.dft, .list (nm.pre.map .str), .list (nm.sps.map .str)], r6⟩ ∧ st.slot 7 = .ptr 7 1 0 ∧ st.box 7 = some ⟨1, [.int .i64 (node : Int), .str ps], r7⟩ ∧ st.slot 9 = .list (fit.map (D.int .i64)) ∧ Hd (fit.length ≤ 20000 ∧ ∀ m ∈ fit, 0 ≤ m) ∧ Hd (R = ((fitAll S ns node (i == 0) fit (X.drop i)).getLast? == some (node : Int)))) (fun st => X.length - slotI st 10) ?_ ?_
 ·exact ⟨0, [], (padR [] 1).take 1, (padR [] 4).take 4, (padR [] 2).take 2, Nat.zero_le _, Iy, Iy, Iy, Iy, Iy, Iy, Iy, Iy, Iy, Hd.mk ⟨by simp, fun m h => by cases h⟩, hRe⟩
 ·rintro st K ⟨i, fit, r5, r6, r7, hi, g10, g0, g5, b5, g6, b6, g7, b7, g9, hfit, hO⟩ hn hx hr
  have hO' : R = ((fitAll S ns node (i == 0) fit (X.drop i)).getLast? == some (node : Int)) := hO
  have hxl : X.length ≤ 100 := HXL
  by_cases h : i < X.length
  ·have k10 : (i : Int) < X.length := by omega
   have hw := wrapS i (by omega)
   obtain ⟨x, hx1⟩ := some_at h
   obtain ⟨e1, e2, e3⟩ := (show ∀ x ∈ X, _ from HX) x (List.mem_of_getElem? hx1)
   have hg := (self_getD hx1).trans e1
   rw [drop_at hx1, fitAll, e1, fitStep_K] at hO'
   generalize cpL x = Y at *
   generalize cpC x = cc at *
   obtain ⟨b0, hb0⟩ : ∃ b0, (i == 0) = b0 := ⟨_, rfl⟩
   have hi0 : ((i : Int) == 0) = b0 := by rw [← hb0, Bool.eq_iff_iff, beq_iff_eq, beq_iff_eq]; omega
   rw [hb0] at hO'
   have hP : ∀ k : Nat, fitP S ns b0 fit cc Y (k : Int) = ((kAt ns k == 1 && Y.all (S · (k : Int))) && (b0 || fit.any fun m => standsF ns (k + 1) m k cc)) := fun k => by unfold fitP; rw [Int.toNat_natCast]
   generalize fitP S ns b0 fit cc Y = P at *
   have HP := Hd.mk hP
   have HI := Hd.mk h
   have HY := Hd.mk e3
   have HYL := Hd.mk e2
   have HO := Hd.mk hO'
   clear hO hO' hx hx1 e1 e2 e3 h hxl hRe hr hP hb0
   refine Gy ?_
   refine loopH (fun st' => ∃ (k : Nat) (r5 r6 r7 : List Room), k ≤ node + 1 ∧ st'.slot 12 = .int .i64 k ∧ st'.slot 10 = .int .i64 i ∧ st'.slot 0 = .list (ns.map Nd.d) ∧ st'.slot 5 = .ptr 5 1 0 ∧ st'.box 5 = some ⟨1, [.list X], r5⟩ ∧ st'.slot 6 = .ptr 6 1 0 ∧ st'.box 6 = some ⟨1, [.bool nm.has, .str nm.dft, .list (nm.pre.map .str), .list (nm.sps.map .str)], r6⟩ ∧ st'.slot 7 = .ptr 7 1 0 ∧ st'.box 7 = some ⟨1, [.int .i64 (node : Int), .str ps], r7⟩ ∧ st'.slot 9 = .list (fit.map (D.int .i64)) ∧ st'.slot 11 = .list ((fitK P k).map (D.int .i64)) ∧ st'.room 11 = [roomOf (fitK P k)]) (fun st' => node + 1 - slotI st' 12) ?_ ?_
   ·exact ⟨0, r5, r6, r7, Nat.zero_le _, Iy, Iy, Iy, Iy, Iy, Iy, Iy, Iy, Iy, Iy, Iy, Iy⟩
   ·rintro st' K' ⟨k, r5', r6', r7', hk, f12, f10, f0, f5, c5, f6, c6, f7, c7, f9, f11, n11⟩ hn2 hx2 hr2
    have G10 := Hd.mk g10
    clear g10 g0 g5 b5 g6 b6 g7 b7 g9
    by_cases h : k < node + 1
    ·have k12 : (k : Int) ≤ (node : Int) := by omega
     have hnl : (node : Int) < ns.length := HND
     have hnS : ns.length ≤ 10000 := HS
     have k13 : (k : Int) < ns.length := by omega
     have hw2 := wrapS k (by omega)
     obtain ⟨nx, hnx, hkk, hgn⟩ := (show ∀ i, i < ns.length → _ from HNA) k (by omega)
     have hsucc := fitK_succ P k
     have hPk := (show ∀ k : Nat, P (k : Int) = _ from HP) k
     obtain ⟨T, hT⟩ : ∃ T, (kAt ns k == 1 && Y.all (S · (k : Int))) = T := ⟨_, rfl⟩
     rw [hT] at hPk
     rw [hkk] at hT
     have HT := Hd.mk hT
     have HPK := Hd.mk hPk
     have HK := Hd.mk h
     have HSU := Hd.mk hsucc
     have HEK := Hd.mk (show nx.k = 1 → elB ns (k : Int) = true from fun e => by
      unfold elB
      rw [Int.toNat_natCast, hkk, e]
      simp
      omega)
     clear hsucc hT hPk hnx hkk hx2 hr2 hn hnS hnl h
     generalize nx.at_.map At.d = NA at *
     generalize nx.st.map D.str = NT at *
     refine Gy ?_
     refine loopH (fun s2 => ∃ (m : Nat) (ok : Bool) (r5 r6 r7 : List Room), m ≤ Y.length ∧ s2.slot 14 = .int .i64 m ∧ s2.slot 13 = .bool ok ∧ s2.slot 12 = .int .i64 k ∧ s2.slot 10 = .int .i64 i ∧ s2.slot 0 = .list (ns.map Nd.d) ∧ s2.slot 5 = .ptr 5 1 0 ∧ s2.box 5 = some ⟨1, [.list X], r5⟩ ∧ s2.slot 6 = .ptr 6 1 0 ∧ s2.box 6 = some ⟨1, [.bool nm.has, .str nm.dft, .list (nm.pre.map .str), .list (nm.sps.map .str)], r6⟩ ∧ s2.slot 7 = .ptr 7 1 0 ∧ s2.box 7 = some ⟨1, [.int .i64 (node : Int), .str ps], r7⟩ ∧ s2.slot 9 = .list (fit.map (D.int .i64)) ∧ s2.slot 11 = .list ((fitK P k).map (D.int .i64)) ∧ s2.room 11 = [roomOf (fitK P k)] ∧ Hd (T = (ok && (Y.drop m).all (S · (k : Int)))) ∧ Hd (ok = true → nx.k = 1)) (fun s2 => Y.length - slotI s2 14) ?_ ?_
     ·exact ⟨0, nx.k == 1, r5', r6', r7', Nat.zero_le _, Iy, Iy, Iy, Iy, Iy, Iy, Iy, Iy, Iy, Iy, Iy, Iy, Iy, Iy, Hd.mk (show T = _ from (show _ = T from HT).symm), Hd.mk (fun e => by simpa using e)⟩
     ·rintro s2 K2 ⟨m, ok, q5, q6, q7, hm, u14, u13, u12, u10, u0, u5, d5, u6, d6, u7, d7, u9, u11, w11, hO2, hok⟩ hn3 hx3 hr3
      have F12 := Hd.mk f12
      clear f12 f10 f0 f5 c5 f6 c6 f7 c7 f9 f11 n11
      have hyl : Y.length ≤ 100 := HYL
      have hO3 : T = (ok && (Y.drop m).all (S · (k : Int))) := hO2
      by_cases h : m < Y.length ∧ ok = true
      ·obtain ⟨h, rfl⟩ := h
       have k14 : (m : Int) < Y.length := by omega
       have hw3 := wrapS m (by omega)
       obtain ⟨s, hs1⟩ := some_at h
       obtain ⟨a1, a2⟩ := (show ∀ s ∈ Y, _ from HY) s (List.mem_of_getElem? hs1)
       have hek : elB ns (k : Int) = true := (show nx.k = 1 → _ from HEK) ((show true = true → nx.k = 1 from hok) rfl)
       have hcall := a2 (k : Int) hek
       have hz := (self_getD hs1).trans a1
       rw [Bool.true_and, all_drop _ hs1] at hO3
       obtain ⟨v, hv⟩ : ∃ v, S s (k : Int) = v := ⟨_, rfl⟩
       rw [hv] at hcall
       have hO4 : T = (v && (Y.drop (m + 1)).all (S · (k : Int))) := by rw [hO3, hv]
       generalize sf s = Z at *
       unfold Sf.d at *
       have HM := Hd.mk h
       have HO3 := Hd.mk hO4
       have HOK : Hd (v = true → nx.k = 1) := Hd.mk (fun _ => (show true = true → nx.k = 1 from hok) rfl)
       clear hO2 hO3 hO4 hx3 hr3 hs1 a1 a2 h hyl hek hok hv hn2
       refine Qy ?_
       refine hn3 _ ⟨m + 1, v, q5, q6, q7, HM, L, L, L, L, L, L, L, L, L, L, L, L, L, L, HO3, HOK⟩ ?_
       ·have hm2 : m < Y.length := HM
        simp only [slotI, *, AVB, ↓reduceIte]
        omega
      ·have hTok : T = ok := by
        cases ok with
        | false => rw [hO3, Bool.false_and]
        | true =>
         have hml : Y.length ≤ m := by
          rcases Nat.lt_or_ge m Y.length with e | e
          ·exact absurd ⟨e, rfl⟩ h
          ·exact e
         rw [hO3, all_end _ hml]; rfl
       subst hTok
       have hend : ¬ (m : Int) < Y.length ∨ T = false := by
        cases T with
        | false => exact .inr rfl
        | true => exact .inl (fun e => h ⟨by omega, rfl⟩)
       have KK := Hd.mk hok
       clear hO2 hO3 hn3 hr3 h hyl hok
       have hro := room_ok (fitK P k)
       have hra := room_app (fitK P k) k
       have hsz := sz1b (fitK P k)
       have hs1 : szOk 1 [D.int .i64 (k : Int)] = true := rfl
       have hfk := (fitK_ok P k).1
       have hl1 : ((fitK P k).map (D.int .i64)).length + 1 ≤ 1073741824 := by rw [List.length_map]; have hS : ns.length ≤ 10000 := HS; have hnl : (node : Int) < ns.length := HND; have hkn : k < node + 1 := HK; omega
       have RO := Hd.mk hro
       have RA := Hd.mk hra
       have RZ := Hd.mk hsz
       have RS := Hd.mk hs1
       have RL := Hd.mk hl1
       clear hro hra hsz hs1 hfk hl1
       have lF := lenM fit (D.int .i64)
       obtain ⟨Q, hQ⟩ : ∃ Q, (b0 || fit.any fun m => standsF ns (k + 1) m k cc) = Q := ⟨_, rfl⟩
       have HQ := Hd.mk hQ.symm
       have HPQ := Hd.mk (show P (k : Int) = (T && Q) from by rw [← hQ]; exact HPK)
       clear hQ
       have HEND := Hd.mk hend
       clear hend
       cases T with
        | true =>
         have hml : ¬ (m : Int) < Y.length := (show ¬ (m : Int) < Y.length ∨ true = false from HEND).resolve_right (by decide)
         refine Gy ?_
         refine hx3 _ _ ?_
         refine Gy ?_
         clear hx3 hml
         refine loopH (fun s4 => ∃ (m : Nat) (th : Bool) (r5 r6 r7 : List Room), m ≤ fit.length ∧ s4.slot 16 = .int .i64 m ∧ s4.slot 15 = .bool th ∧ s4.slot 13 = .bool true ∧ s4.slot 12 = .int .i64 k ∧ s4.slot 10 = .int .i64 i ∧ s4.slot 0 = .list (ns.map Nd.d) ∧ s4.slot 5 = .ptr 5 1 0 ∧ s4.box 5 = some ⟨1, [.list X], r5⟩ ∧ s4.slot 6 = .ptr 6 1 0 ∧ s4.box 6 = some ⟨1, [.bool nm.has, .str nm.dft, .list (nm.pre.map .str), .list (nm.sps.map .str)], r6⟩ ∧ s4.slot 7 = .ptr 7 1 0 ∧ s4.box 7 = some ⟨1, [.int .i64 (node : Int), .str ps], r7⟩ ∧ s4.slot 9 = .list (fit.map (D.int .i64)) ∧ s4.slot 11 = .list ((fitK P k).map (D.int .i64)) ∧ s4.room 11 = [roomOf (fitK P k)] ∧ Hd (Q = (th || (fit.drop m).any fun a => standsF ns (k + 1) a k cc))) (fun s4 => fit.length - slotI s4 16) ?_ ?_
         ·exact ⟨0, b0, q5, q6, q7, Nat.zero_le _, Iy, Iy, Iy, Iy, Iy, Iy, Iy, Iy, Iy, Iy, Iy, Iy, Iy, Iy, Iy, HQ⟩
         ·rintro s4 K4 ⟨m4, th, p5, p6, p7, hm4, v16, v15, v13, v12, v10, v0, v5, y5, v6, y6, v7, y7, v9, v11, x11, hO4⟩ hn4 hx4 hr4
          clear u14 u13 u12 u10 u0 u5 d5 u6 d6 u7 d7 u9 u11 w11
          have hO5 : Q = (th || (fit.drop m4).any fun a => standsF ns (k + 1) a k cc) := hO4
          have hfl : fit.length ≤ 20000 := (show fit.length ≤ 20000 ∧ _ from hfit).1
          by_cases h : m4 < fit.length ∧ th = false
          ·obtain ⟨h, rfl⟩ := h
           have k16 : (m4 : Int) < fit.length := by omega
           have hw4 := wrapS m4 (by omega)
           obtain ⟨a, ha1⟩ := some_at h
           have hga : (fit.map (D.int .i64)).getD m4 .bad = .int .i64 a := getD_map (f := D.int .i64) ha1
           have ha0 : 0 ≤ a := (show fit.length ≤ 20000 ∧ ∀ m ∈ fit, 0 ≤ m from hfit).2 a (List.mem_of_getElem? ha1)
           have hek : elB ns (k : Int) = true := (show nx.k = 1 → _ from HEK) ((show true = true → nx.k = 1 from KK) rfl)
           have hsc := (show ∀ a b comb : Int, elB ns b = true → 0 ≤ a → _ from HST) a (k : Int) cc hek ha0
           rw [Int.toNat_natCast] at hsc
           rw [Bool.false_or, any_drop _ ha1] at hO5
           generalize hv : standsF ns (k + 1) a (k : Int) cc = v at *
           have HM4 := Hd.mk h
           have HO5 := Hd.mk hO5
           clear hO4 hO5 hx4 hr4 ha1 ha0 hek hv h hfl hn2
           refine Qy ?_
           refine hn4 _ ⟨m4 + 1, v, p5, p6, p7, HM4, L, L, L, L, L, L, L, L, L, L, L, L, L, L, L, HO5⟩ ?_
           ·have hm2 : m4 < fit.length := HM4
            simp only [slotI, *, AVB, ↓reduceIte]
            omega
          ·have hQth : Q = th := by
            cases th with
            | true => rw [hO5, Bool.true_or]
            | false =>
             have : fit.length ≤ m4 := by
              rcases Nat.lt_or_ge m4 fit.length with e | e
              ·exact absurd ⟨e, rfl⟩ h
              ·exact e
             rw [hO5, any_end _ this]; rfl
           have hPk : P (k : Int) = th := by rw [← hQth]; exact (show P (k : Int) = (true && Q) from HPQ).trans (Bool.true_and _)
           have hsu := (show fitK P (k + 1) = _ from HSU)
           have hkn : k < node + 1 := HK
           rw [hPk] at hsu
           have hne : (m4 : Int) < fit.length → th = true := fun e => by
            cases th with
            | true => rfl
            | false => exact absurd ⟨by omega, rfl⟩ h
           have HSV := Hd.mk hsu
           have HNE := Hd.mk hne
           clear hO4 hO5 hn4 hr4 h hQth hPk hsu hne hfl
           cases th with
           | true =>
            have hsu : fitK P (k + 1) = fitK P k ++ [(k : Int)] := (show fitK P (k + 1) = _ from HSV)
            have hro : roomOf (fitK P k) = .full ∨ roomOf (fitK P k) = .own 3 ∨ roomOf (fitK P k) = .fresh := RO
            have hra : roomOf (fitK P k ++ [(k : Int)]) = .own 3 := RA
            have hsz : szOk 1 ((fitK P k).map (D.int .i64)) = true := RZ
            have hs1 : szOk 1 [D.int .i64 (k : Int)] = true := RS
            have hl1 : ((fitK P k).map (D.int .i64)).length + 1 ≤ 1073741824 := RL
            repeat' (first|simp only [*, AVB, AVY, ↓reduceIte, Nat.reduceEqDiff, Nat.reduceLT, Nat.reduceBEq, dIntBin]|refine gw_intro (fun h => ?_) (fun h => ?_) <;> try simp only [AVH] at h)
            all_goals
             refine hx4 _ _ ?_
             refine Gy ?_
             refine hn2 _ ⟨k + 1, p5, p6, p7, hkn, ?_, ?_, ?_, ?_, ?_, ?_, ?_, ?_, ?_, ?_, ?_, ?_⟩ ?_
             ·simp only [*, AVB, ↓reduceIte]
             ·simp only [*, AVB, ↓reduceIte, Nat.reduceEqDiff]
             ·simp only [*, AVB, ↓reduceIte, reduceCtorEq]
             ·simp only [*, AVB, ↓reduceIte, Nat.reduceEqDiff]
             ·simp only [*, AVB]
             ·simp only [*, AVB, ↓reduceIte, Nat.reduceEqDiff]
             ·simp only [*, AVB]
             ·simp only [*, AVB, ↓reduceIte, Nat.reduceEqDiff]
             ·simp only [*, AVB]
             ·simp only [*, AVB, ↓reduceIte, Nat.reduceEqDiff]
             ·simp only [*, List.map_append, AVB, ↓reduceIte, Nat.reduceEqDiff]
             ·simp only [*, AVB, ↓reduceIte, Nat.reduceEqDiff]
             ·have f12 : st'.slot 12 = .int .i64 k := F12
              simp only [slotI, *, AVB, ↓reduceIte]
              omega
           | false =>
            have hsu : fitK P (k + 1) = fitK P k := (show fitK P (k + 1) = fitK P k ++ [] from HSV).trans (List.append_nil _)
            have hne : ¬ (m4 : Int) < fit.length := fun e => absurd ((show (m4 : Int) < fit.length → false = true from HNE) e) (by decide)
            refine Gy ?_
            refine hx4 _ _ ?_
            refine Gy ?_
            refine hn2 _ ⟨k + 1, p5, p6, p7, hkn, ?_, ?_, ?_, ?_, ?_, ?_, ?_, ?_, ?_, ?_, ?_, ?_⟩ ?_
            ·simp only [*, AVB, ↓reduceIte]
            ·simp only [*, AVB, ↓reduceIte, Nat.reduceEqDiff]
            ·simp only [*, AVB, ↓reduceIte, reduceCtorEq]
            ·simp only [*, AVB, ↓reduceIte, Nat.reduceEqDiff]
            ·simp only [*, AVB]
            ·simp only [*, AVB, ↓reduceIte, Nat.reduceEqDiff]
            ·simp only [*, AVB]
            ·simp only [*, AVB, ↓reduceIte, Nat.reduceEqDiff]
            ·simp only [*, AVB]
            ·simp only [*, AVB, ↓reduceIte, Nat.reduceEqDiff]
            ·simp only [*, AVB, ↓reduceIte, Nat.reduceEqDiff]
            ·simp only [*, AVB, ↓reduceIte, Nat.reduceEqDiff]
            ·have f12 : st'.slot 12 = .int .i64 k := F12
             simp only [slotI, *, AVB, ↓reduceIte]
             omega
        | false =>
         have hsu0 : fitK P (k + 1) = fitK P k := by
          have h1 := (show fitK P (k + 1) = _ from HSU)
          rw [(show P (k : Int) = (false && Q) from HPQ)] at h1
          exact h1.trans (List.append_nil _)
         have hkn : k < node + 1 := HK
         have hsu := hsu0
         clear hsu0
         by_cases hml : (m : Int) < Y.length
         all_goals
          refine Gy ?_
          refine hx3 _ _ ?_
          refine Gy ?_
          clear hx3 hml
          refine loopH (fun s4 => ∃ (m : Nat) (th : Bool) (r5 r6 r7 : List Room), s4.slot 16 = .int .i64 m ∧ s4.slot 15 = .bool th ∧ s4.slot 13 = .bool false ∧ s4.slot 12 = .int .i64 k ∧ s4.slot 10 = .int .i64 i ∧ s4.slot 0 = .list (ns.map Nd.d) ∧ s4.slot 5 = .ptr 5 1 0 ∧ s4.box 5 = some ⟨1, [.list X], r5⟩ ∧ s4.slot 6 = .ptr 6 1 0 ∧ s4.box 6 = some ⟨1, [.bool nm.has, .str nm.dft, .list (nm.pre.map .str), .list (nm.sps.map .str)], r6⟩ ∧ s4.slot 7 = .ptr 7 1 0 ∧ s4.box 7 = some ⟨1, [.int .i64 (node : Int), .str ps], r7⟩ ∧ s4.slot 9 = .list (fit.map (D.int .i64)) ∧ s4.slot 11 = .list ((fitK P k).map (D.int .i64)) ∧ s4.room 11 = [roomOf (fitK P k)]) (fun s4 => 0) ?_ ?_
          ·exact ⟨0, b0, q5, q6, q7, Iy, Iy, Iy, Iy, Iy, Iy, Iy, Iy, Iy, Iy, Iy, Iy, Iy, Iy, Iy⟩
          ·rintro s4 K4 ⟨m4, th, p5, p6, p7, v16, v15, v13, v12, v10, v0, v5, y5, v6, y6, v7, y7, v9, v11, x11⟩ hn4 hx4 hr4
           clear u14 u13 u12 u10 u0 u5 d5 u6 d6 u7 d7 u9 u11 w11 hn4 hr4
           repeat' (first|simp only [*, AVB, AVY, ↓reduceIte, Nat.reduceEqDiff, Nat.reduceLT, Nat.reduceBEq, dIntBin]|refine gw_intro (fun h => ?_) (fun h => ?_) <;> try simp only [AVH] at h)
           all_goals
            refine hx4 _ _ ?_
            refine Gy ?_
            refine hn2 _ ⟨k + 1, p5, p6, p7, hkn, ?_, ?_, ?_, ?_, ?_, ?_, ?_, ?_, ?_, ?_, ?_, ?_⟩ ?_
            ·simp only [*, AVB, ↓reduceIte]
            ·simp only [*, AVB, ↓reduceIte, Nat.reduceEqDiff]
            ·simp only [*, AVB, ↓reduceIte, reduceCtorEq]
            ·simp only [*, AVB, ↓reduceIte, Nat.reduceEqDiff]
            ·simp only [*, AVB]
            ·simp only [*, AVB, ↓reduceIte, Nat.reduceEqDiff]
            ·simp only [*, AVB]
            ·simp only [*, AVB, ↓reduceIte, Nat.reduceEqDiff]
            ·simp only [*, AVB]
            ·simp only [*, AVB, ↓reduceIte, Nat.reduceEqDiff]
            ·simp only [*, AVB, ↓reduceIte, Nat.reduceEqDiff]
            ·simp only [*, AVB, ↓reduceIte, Nat.reduceEqDiff]
            ·have f12 : st'.slot 12 = .int .i64 k := F12
             simp only [slotI, *, AVB, ↓reduceIte]
             omega
    ·have k12 : ¬ (k : Int) ≤ (node : Int) := by omega
     obtain rfl : k = node + 1 := by omega
     have hi2 : i < X.length := HI
     have hff : fitK P (node + 1) = fitK P (node + 1) := rfl
     have hb1 := (fitK_ok P (node + 1))
     have HF : Hd ((fitK P (node + 1)).length ≤ 20000 ∧ ∀ m ∈ fitK P (node + 1), 0 ≤ m) := Hd.mk ⟨by have hS : ns.length ≤ 10000 := HS; have hnl : (node : Int) < ns.length := HND; omega, hb1.2⟩
     have HR2 : Hd (R = ((fitAll S ns node (i + 1 == 0) (fitK P (node + 1)) (X.drop (i + 1))).getLast? == some (node : Int))) := Hd.mk (by rw [show (i + 1 == 0) = false from by simp]; exact HO)
     clear hb1 hff hn2 hr2 h
     refine Gy ?_
     refine hx2 _ _ ?_
     refine Gy ?_
     refine hn _ ⟨i + 1, fitK P (node + 1), r5', r6', r7', hi2, L, L, L, L, L, L, L, L, L, HF, HR2⟩ ?_
     ·have g10 : st.slot 10 = .int .i64 i := G10
      simp only [slotI, *, AVB, ↓reduceIte]
      omega
  ·have k10 : ¬ (i : Int) < X.length := by omega
   rw [List.drop_eq_nil_of_le (by omega), fitAll] at hO'
   have lF := lenM fit (D.int .i64)
   have hfl : fit.length ≤ 20000 := (show fit.length ≤ 20000 ∧ _ from hfit).1
   by_cases hf0 : fit = []
   ·have hO2 : R = false := by rw [hO', hf0]; rfl
    subst hO2
    have z1 : ¬ (0 : Int) < fit.length := by rw [hf0]; simp
    clear hO hO' hn hr hRe h hxl hf0
    refine Gy ?_
    exact hx _ _ Wy
   ·obtain ⟨z, hz1, hz2⟩ := getLast_map fit hf0
    have hl0 : fit.length ≠ 0 := fun e => hf0 (List.eq_nil_of_length_eq_zero e)
    have z1 : (0 : Int) < fit.length := by omega
    have z2 : IntKind.i64.wrap ((fit.length : Int) - 1) = ((fit.length - 1 : Nat) : Int) := by rw [wrap64 _ (by omega) (by omega)]; omega
    have z3 : ((fit.length - 1 : Nat) : Int) < fit.length := by omega
    have z4 : (0 : Int) ≤ ((fit.length - 1 : Nat) : Int) := by omega
    rw [hz1] at hO'
    have hO2 : R = (z == (node : Int)) := hO'
    subst hO2
    clear hO hO' hn hr hRe h hxl hf0 hz1 hl0 hfl
    refine Gy ?_
    exact hx _ _ Wy
end Go.Av
