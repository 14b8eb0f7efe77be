/- The evaluator, in one text: over any program; no conditions but those that each law names. -/
import Derived.Test.YtcogfddcdpgpkaaGreatDoorAvud
import Derived.Test.YtcogfddcdpgpkaaGreatDoorAvuc
set_option linter.unusedSimpArgs false
set_option linter.unusedVariables false
set_option linter.unusedSectionVars false
set_option maxRecDepth 100000
namespace Go.Proofs.YtcogfddcdpgpkaaGreatDoor
open Go.Proofs Go.RowKit Go.Shelf
attribute [local go_sem] Oper.semAt_some
noncomputable def ops3 : Array Oper := (Tryz.f45.body.bind (findR 3)).getD #[]
noncomputable def deps3 (i : Nat) : List Nat := ((ops3[i]?).map fun o => (o.after.toList.filter fun e => Region.binds .any e).map (·.on)).getD []
theorem deps3_of {listed : Array Bool} {i : Nat} (h : i ∈ Region.ready .any ops3 listed) {d : Nat} (hd : (deps3 i).contains d = true) : listed.getD d false = true := by
 have hlt := ready_lt h
 have h2 := (ready_at (o := ops3[i]) h (Array.getElem?_eq_getElem hlt)).2
 rw [List.contains_iff_mem] at hd
 unfold deps3 at hd
 rw [Array.getElem?_eq_getElem hlt] at hd
 simp only [Option.map_some, Option.getD_some, List.mem_map, List.mem_filter] at hd
 obtain ⟨e, ⟨he, hb⟩, rfl⟩ := hd
 have := (Array.all_eq_true_iff_forall_mem.1 h2) e (by simpa using he)
 simpa [hb] using this
def V3 (b o N c : Nat) (cc : Int) (sa : Option Addr) (sn sc : Nat) : Nat → Value
 | 18 => .slice (some ⟨b, o, none⟩) (N + 1) c | 19 => .slice (some ⟨b, o, none⟩) (N + 1) c | 20 => .int .i64 ((N : Int) + 1) | 21 => .int .i64 N
 | 22 => .pointer (some ⟨b, o + N * 2, none⟩) | 23 => .agg #[.int .i64 cc, .slice sa sn sc]
 | 24 => .slice (some ⟨b, o, none⟩) (N + 1) c | 25 => .slice (some ⟨b, o, none⟩) (N + 1) c | 26 => .int .i64 ((N : Int) + 1) | 27 => .int .i64 N
 | 28 => .slice (some ⟨b, o, none⟩) N c
 | _ => undef
structure I3 (b o N c : Nat) (cc : Int) (sa : Option Addr) (sn sc : Nat) (A0 : Act) (W1 : World) (listed : Array Bool) (a : Act) (w : World) : Prop where
 sz : listed.size = 15
 tz : a.tmps.size = 94
 df : a.defers = A0.defers
 val : ∀ i, i < 11 → listed.getD i false = true → a.tmps.getD (18 + i) undef = V3 b o N c cc sa sn sc (18 + i)
 oth : ∀ d, (d < 18 ∨ 28 < d) → d ≠ 7 → d ≠ 8 → a.tmps.getD d undef = A0.tmps.getD d undef
 cl : ∀ i d, (deps3 i).contains d = true → listed.getD i false = true → listed.getD d false = true
 b7 : listed.getD 11 false = true → ∃ B, W1.heap.size ≤ B ∧ a.tmps.getD 7 undef = .pointer (some ⟨B, 0, none⟩) ∧ BoxR w B 45 (if listed.getD 13 false = true then #[.int .i64 cc, .slice sa sn sc] else #[.int .i64 0, .slice none 0 0])
 b8 : listed.getD 12 false = true → ∃ B, W1.heap.size ≤ B ∧ a.tmps.getD 8 undef = .pointer (some ⟨B, 0, none⟩) ∧ BoxR w B 46 (if listed.getD 14 false = true then #[.slice (some ⟨b, o, none⟩) N c] else #[.slice none 0 0])
 ko : KeepsOthers W1 w
 be : Below W1.heap.size W1 w
section
variable {b o N c : Nat} {cc : Int} {sa : Option Addr} {sn sc : Nat} {A0 : Act} {W1 : World} {listed : Array Bool} {a : Act} {w : World}
theorem set_ne {listed : Array Bool} {i j : Nat} (h : i < listed.size) (hj : j ≠ i) : (listed.setIfInBounds i true).getD j false = listed.getD j false := by rw [set_get h, if_neg hj]
theorem set_eq {listed : Array Bool} {i : Nat} (h : i < listed.size) : (listed.setIfInBounds i true).getD i false = true := by rw [set_get h, if_pos rfl]
theorem put_get {d k : Nat} {v : Value} (hk : k ≠ d) : (a.put (some d) v).tmps.getD k undef = a.tmps.getD k undef := by
 show (a.tmps.setIfInBounds d v).getD k undef = _
 simp only [Array.getD_eq_getD_getElem?, Array.getElem?_setIfInBounds_ne (fun e => hk e.symm)]
theorem put_at {d : Nat} {v : Value} (h : d < a.tmps.size) : (a.put (some d) v).tmps.getD d undef = v := by
 show (a.tmps.setIfInBounds d v).getD d undef = v
 simp [Array.getD, h]
theorem put_sz {d : Option Nat} {v : Value} : (a.put d v).tmps.size = a.tmps.size := by
 cases d <;> simp [Act.put]
theorem I3.put (h : I3 b o N c cc sa sn sc A0 W1 listed a w) {i : Nat} (hi : i < 11) (hr : i ∈ Region.ready .any ops3 listed) :
  I3 b o N c cc sa sn sc A0 W1 (listed.setIfInBounds i true) (a.put (some (18 + i)) (V3 b o N c cc sa sn sc (18 + i))) w := by
 have hs : i < listed.size := by rw [h.sz]; omega
 refine ⟨by simp [h.sz], by rw [put_sz]; exact h.tz, h.df, fun j hj hl => ?_, fun d hd h7 h8 => (put_get (by omega)).trans (h.oth d hd h7 h8), fun j e he hl => ?_, fun hl => ?_, fun hl => ?_, h.ko, h.be⟩
 ·rw [set_get hs] at hl
  by_cases hji : j = i
  ·subst hji
   exact put_at (by rw [h.tz]; omega)
  ·rw [if_neg hji] at hl
   exact (put_get (by omega)).trans (h.val j hj hl)
 ·rw [set_get hs] at hl ⊢
  by_cases hji : j = i
  ·subst hji
   have := deps3_of hr he
   split
   ·rfl
   ·exact this
  ·rw [if_neg hji] at hl
   split
   ·rfl
   ·exact h.cl j e he hl
 ·rw [set_ne hs (by omega)] at hl
  rw [set_ne hs (by omega)]
  obtain ⟨B, h1, h2, h3⟩ := h.b7 hl
  exact ⟨B, h1, (put_get (by omega)).trans h2, h3⟩
 ·rw [set_ne hs (by omega)] at hl
  rw [set_ne hs (by omega)]
  obtain ⟨B, h1, h2, h3⟩ := h.b8 hl
  exact ⟨B, h1, (put_get (by omega)).trans h2, h3⟩
theorem I3.closed (h : I3 b o N c cc sa sn sc A0 W1 listed a w) {i : Nat} (hi : i < 15) (hr : i ∈ Region.ready .any ops3 listed) : ∀ j e, (deps3 j).contains e = true → (listed.setIfInBounds i true).getD j false = true → (listed.setIfInBounds i true).getD e false = true := by
 intro j e he hl
 have hs : i < listed.size := by rw [h.sz]; omega
 rw [set_get hs] at hl ⊢
 by_cases hji : j = i
 ·subst hji
  have := deps3_of hr he
  split
  ·rfl
  ·exact this
 ·rw [if_neg hji] at hl
  split
  ·rfl
  ·exact h.cl j e he hl
theorem I3.not_yet (h : I3 b o N c cc sa sn sc A0 W1 listed a w) {i d : Nat} (hr : i ∈ Region.ready .any ops3 listed) (hd : (deps3 d).contains i = true) : listed.getD d false = false := by
 have hlt := ready_lt hr
 have h1 := (ready_at (o := ops3[i]) hr (Array.getElem?_eq_getElem hlt)).1
 cases hl : listed.getD d false with
 | false => rfl
 | true =>
  have h2 := h.cl d i hd hl
  have hi : i < listed.size := by rw [h.sz]; exact hlt
  simp [Array.getD, hi] at h1 h2
  rw [h1] at h2
  cases h2
theorem I3.alloc7 (h : I3 b o N c cc sa sn sc A0 W1 listed a w) (hr : 11 ∈ Region.ready .any ops3 listed) :
  I3 b o N c cc sa sn sc A0 W1 (listed.setIfInBounds 11 true) (a.put (some 7) (.pointer (some ⟨w.heap.size, 0, none⟩))) (w.alloc (.cells #[.int .i64 0, .slice none 0 0] 45)) := by
 have hs : 11 < listed.size := by rw [h.sz]; omega
 have h13 : listed.getD 13 false = false := h.not_yet hr (by kernel_rfl)
 refine ⟨by simp [h.sz], by rw [put_sz]; exact h.tz, h.df, fun j hj hl => ?_, fun d hd h7 h8 => (put_get (by omega)).trans (h.oth d hd h7 h8), h.closed (by decide) hr, fun hl => ?_, fun hl => ?_, h.ko.trans (KeepsOthers.alloc _ _), h.be.alloc h.be.size _⟩
 ·rw [set_ne hs (by omega)] at hl
  exact (put_get (by omega)).trans (h.val j hj hl)
 ·refine ⟨w.heap.size, h.be.size, put_at (by rw [h.tz]; decide), ?_⟩
  rw [set_ne hs (by decide), h13]
  exact BoxR.new w 45 _
 ·rw [set_ne hs (by decide)] at hl
  rw [set_ne hs (by decide)]
  obtain ⟨B, h1, h2, h3⟩ := h.b8 hl
  exact ⟨B, h1, (put_get (by omega)).trans h2, h3.alloc _⟩
theorem I3.alloc8 (h : I3 b o N c cc sa sn sc A0 W1 listed a w) (hr : 12 ∈ Region.ready .any ops3 listed) :
  I3 b o N c cc sa sn sc A0 W1 (listed.setIfInBounds 12 true) (a.put (some 8) (.pointer (some ⟨w.heap.size, 0, none⟩))) (w.alloc (.cells #[.slice none 0 0] 46)) := by
 have hs : 12 < listed.size := by rw [h.sz]; omega
 have h14 : listed.getD 14 false = false := h.not_yet hr (by kernel_rfl)
 refine ⟨by simp [h.sz], by rw [put_sz]; exact h.tz, h.df, fun j hj hl => ?_, fun d hd h7 h8 => (put_get (by omega)).trans (h.oth d hd h7 h8), h.closed (by decide) hr, fun hl => ?_, fun hl => ?_, h.ko.trans (KeepsOthers.alloc _ _), h.be.alloc h.be.size _⟩
 ·rw [set_ne hs (by omega)] at hl
  exact (put_get (by omega)).trans (h.val j hj hl)
 ·rw [set_ne hs (by decide)] at hl
  rw [set_ne hs (by decide)]
  obtain ⟨B, h1, h2, h3⟩ := h.b7 hl
  exact ⟨B, h1, (put_get (by omega)).trans h2, h3.alloc _⟩
 ·refine ⟨w.heap.size, h.be.size, put_at (by rw [h.tz]; decide), ?_⟩
  rw [set_ne hs (by decide), h14]
  exact BoxR.new w 46 _
theorem box_ne {B B' : Nat} {C C' : Array Value} (h : BoxR w B 45 C) (h' : BoxR w B' 46 C') : B ≠ B' := by
 rintro rfl
 unfold BoxR at h h'
 rw [h] at h'
 simp at h'
theorem I3.store7 (h : I3 b o N c cc sa sn sc A0 W1 listed a w) (hr : 13 ∈ Region.ready .any ops3 listed) {B : Nat} (hB : W1.heap.size ≤ B) (hp : a.tmps.getD 7 undef = .pointer (some ⟨B, 0, none⟩)) (hx : BoxR w B 45 #[.int .i64 0, .slice none 0 0]) :
  I3 b o N c cc sa sn sc A0 W1 (listed.setIfInBounds 13 true) a ((w.setCell ⟨B, 0, none⟩ (.int .i64 cc)).setCell ⟨B, 1, none⟩ (.slice sa sn sc)) := by
 have hs : 13 < listed.size := by rw [h.sz]; omega
 refine ⟨by simp [h.sz], h.tz, h.df, fun j hj hl => ?_, h.oth, h.closed (by decide) hr, fun hl => ?_, fun hl => ?_, (h.ko.trans (KeepsOthers.setCell _ _ _)).trans (KeepsOthers.setCell _ _ _), (h.be.setCell (p := ⟨B, 0, none⟩) hB _).setCell (p := ⟨B, 1, none⟩) hB _⟩
 ·rw [set_ne hs (by omega)] at hl
  exact h.val j hj hl
 ·refine ⟨B, hB, hp, ?_⟩
  rw [set_eq hs]
  exact (hx.set 0 (.int .i64 cc)).set 1 (.slice sa sn sc)
 ·rw [set_ne hs (by decide)] at hl
  rw [set_ne hs (by decide)]
  obtain ⟨B', h1, h2, h3⟩ := h.b8 hl
  exact ⟨B', h1, h2, (h3.other (box_ne hx h3) _ _).other (box_ne hx h3) _ _⟩
theorem I3.store8 (h : I3 b o N c cc sa sn sc A0 W1 listed a w) (hr : 14 ∈ Region.ready .any ops3 listed) {B : Nat} (hB : W1.heap.size ≤ B) (hp : a.tmps.getD 8 undef = .pointer (some ⟨B, 0, none⟩)) (hx : BoxR w B 46 #[.slice none 0 0]) :
  I3 b o N c cc sa sn sc A0 W1 (listed.setIfInBounds 14 true) a (w.setCell ⟨B, 0, none⟩ (.slice (some ⟨b, o, none⟩) N c)) := by
 have hs : 14 < listed.size := by rw [h.sz]; omega
 refine ⟨by simp [h.sz], h.tz, h.df, fun j hj hl => ?_, h.oth, h.closed (by decide) hr, fun hl => ?_, fun hl => ?_, h.ko.trans (KeepsOthers.setCell _ _ _), h.be.setCell (p := ⟨B, 0, none⟩) hB _⟩
 ·rw [set_ne hs (by omega)] at hl
  exact h.val j hj hl
 ·rw [set_ne hs (by decide)] at hl
  rw [set_ne hs (by decide)]
  obtain ⟨B', h1, h2, h3⟩ := h.b7 hl
  exact ⟨B', h1, h2, h3.other (Ne.symm (box_ne h3 hx)) _ _⟩
 ·refine ⟨B, hB, hp, ?_⟩
  rw [set_eq hs]
  exact hx.set 0 (.slice (some ⟨b, o, none⟩) N c)
theorem op3 {n i : Nat} {oo : Oper} {v : Value} {w' : World} {Q : Exit → Act → World → Prop} {K : Act → World → Prop} (ho : ops3[i]? = some oo) (hg : oo.guard = none) (hnd : ∀ c, oo.op ≠ .defer c)
  (hrun : (execOp a.eval oo).run Tryz.prog w = .ok (.value v) w') (hK : K (a.put oo.dst v) w') : wpOpIn Fence.wide n Tryz.prog ops3 Q i K a w := by
 unfold wpOpIn
 rw [ho]
 have hw : Region.wanted oo (yielded ops3 a.tmps) = true := by simp [Region.wanted, hg]
 simp only [hw, if_true]
 refine ⟨fun f _ => trivial, ?_⟩
 rw [Oper.semAt_eq _ _ _ hnd, hrun]
 exact hK
theorem op3s {n i : Nat} {oo : Oper} {w' : World} {Q : Exit → Act → World → Prop} {K : Act → World → Prop} (ho : ops3[i]? = some oo) (hdst : oo.dst = none) (hg : oo.guard = none) (hnd : ∀ c, oo.op ≠ .defer c)
  (hrun : (execOp a.eval oo).run Tryz.prog w = .ok .skip w') (hK : K a w') : wpOpIn Fence.wide n Tryz.prog ops3 Q i K a w := by
 unfold wpOpIn
 rw [ho]
 have hw : Region.wanted oo (yielded ops3 a.tmps) = true := by simp [Region.wanted, hg]
 simp only [hw, if_true]
 refine ⟨fun f _ => trivial, ?_⟩
 rw [Oper.semAt_eq _ _ _ hnd, hrun, Oper.uponIn_skip, hdst]
 exact hK
theorem ex_mv {oo : Oper} {s : Nat} {v : Value} (ho : oo.op = .move (.tmp s)) (h : a.tmps.getD s undef = v) : (execOp a.eval oo).run Tryz.prog w = .ok (.value v) w := by
 have he : a.tmps[s]?.getD undef = v := by rw [← Array.getD_eq_getD_getElem?]; exact h
 simp [go_sem, execOp, ho, he]
theorem ex_len {oo : Oper} {s : Nat} {A : Option Addr} {m k : Nat} (ho : oo.op = .call { callee := .builtin .len, args := #[.tmp s], argTypes := #[46] }) (h : a.tmps.getD s undef = .slice A m k) : (execOp a.eval oo).run Tryz.prog w = .ok (.value (.int .i64 m)) w := by
 have he : a.tmps[s]?.getD undef = .slice A m k := by rw [← Array.getD_eq_getD_getElem?]; exact h
 simp [go_sem, execOp, ho, he]
theorem ex_sub1 {oo : Oper} {s : Nat} (hN : N ≤ 1000) (ho : oo.op = .binOp .sub 3 (.tmp s) (.const (.int .i64 1)) 3) (h : a.tmps.getD s undef = .int .i64 ((N : Int) + 1)) : (execOp a.eval oo).run Tryz.prog w = .ok (.value (.int .i64 N)) w := by
 have he : a.tmps[s]?.getD undef = .int .i64 ((N : Int) + 1) := by rw [← Array.getD_eq_getD_getElem?]; exact h
 simp [go_sem, execOp, ho, he]
 rw [IntKind.wrap_i64]
 omega
theorem ex_ia {oo : Oper} {s t : Nat} (hN : N ≤ 1000) (ho : oo.op = .indexAddr 46 (.tmp s) (.tmp t)) (h : a.tmps.getD s undef = .slice (some ⟨b, o, none⟩) (N + 1) c) (h' : a.tmps.getD t undef = .int .i64 N) : (execOp a.eval oo).run Tryz.prog w = .ok (.value (.pointer (some ⟨b, o + N * 2, none⟩))) w := by
 have he : a.tmps[s]?.getD undef = .slice (some ⟨b, o, none⟩) (N + 1) c := by rw [← Array.getD_eq_getD_getElem?]; exact h
 have he' : a.tmps[t]?.getD undef = .int .i64 N := by rw [← Array.getD_eq_getD_getElem?]; exact h'
 simp [go_sem, execOp, ho, he, he']
 exact fun h => absurd h (by omega)
theorem ex_ld2 {oo : Oper} {s : Nat} (ho : oo.op = .load 45 (.tmp s)) (h : a.tmps.getD s undef = .pointer (some ⟨b, o + N * 2, none⟩)) (h1 : w.cell? ⟨b, o + N * 2, none⟩ = some (.int .i64 cc)) (h2 : w.cell? ⟨b, o + N * 2 + 1, none⟩ = some (.slice sa sn sc)) : (execOp a.eval oo).run Tryz.prog w = .ok (.value (.agg #[.int .i64 cc, .slice sa sn sc])) w := by
 have he : a.tmps[s]?.getD undef = .pointer (some ⟨b, o + N * 2, none⟩) := by rw [← Array.getD_eq_getD_getElem?]; exact h
 simp [go_sem, execOp, ho, he, h1, h2]
theorem ex_slc {oo : Oper} {s t : Nat} (hN : N ≤ 1000) (hc : N + 1 ≤ c) (ho : oo.op = .slice 46 (.tmp s) none (some (.tmp t)) none) (h : a.tmps.getD s undef = .slice (some ⟨b, o, none⟩) (N + 1) c) (h' : a.tmps.getD t undef = .int .i64 N) : (execOp a.eval oo).run Tryz.prog w = .ok (.value (.slice (some ⟨b, o, none⟩) N c)) w := by
 have he : a.tmps[s]?.getD undef = .slice (some ⟨b, o, none⟩) (N + 1) c := by rw [← Array.getD_eq_getD_getElem?]; exact h
 have he' : a.tmps[t]?.getD undef = .int .i64 N := by rw [← Array.getD_eq_getD_getElem?]; exact h'
 have f1 : (N : Int) ≤ c := by omega
 have f2 : N ≤ c := by omega
 simp [go_sem, execOp, ho, he, he', f1]
theorem ex_al45 {oo : Oper} (ho : oo.op = .alloc 45) : (execOp a.eval oo).run Tryz.prog w = .ok (.value (.pointer (some ⟨w.heap.size, 0, none⟩))) (w.alloc (.cells #[.int .i64 0, .slice none 0 0] 45)) := by
 simp [go_sem, execOp, ho]
theorem ex_al46 {oo : Oper} (ho : oo.op = .alloc 46) : (execOp a.eval oo).run Tryz.prog w = .ok (.value (.pointer (some ⟨w.heap.size, 0, none⟩))) (w.alloc (.cells #[.slice none 0 0] 46)) := by
 simp [go_sem, execOp, ho]
theorem ex_st45 {oo : Oper} {s t B : Nat} (ho : oo.op = .store 45 (.tmp s) (.tmp t)) (h : a.tmps.getD s undef = .pointer (some ⟨B, 0, none⟩)) (h' : a.tmps.getD t undef = .agg #[.int .i64 cc, .slice sa sn sc]) (hx : BoxR w B 45 #[.int .i64 0, .slice none 0 0]) :
  (execOp a.eval oo).run Tryz.prog w = .ok .skip ((w.setCell ⟨B, 0, none⟩ (.int .i64 cc)).setCell ⟨B, 1, none⟩ (.slice sa sn sc)) := by
 have he : a.tmps[s]?.getD undef = .pointer (some ⟨B, 0, none⟩) := by rw [← Array.getD_eq_getD_getElem?]; exact h
 have he' : a.tmps[t]?.getD undef = .agg #[.int .i64 cc, .slice sa sn sc] := by rw [← Array.getD_eq_getD_getElem?]; exact h'
 have c0 : w.cell? ⟨B, 0, none⟩ = some (.int .i64 0) := hx.cell 0
 have c1 : w.cell? ⟨B, 1, none⟩ = some (.slice none 0 0) := hx.cell 1
 have z0 := hx.frozen 0
 have z1 := hx.frozen 1
 simp [go_sem, execOp, ho, he, he', c0, c1, z0, z1]
theorem ex_st46 {oo : Oper} {s t B : Nat} (ho : oo.op = .store 46 (.tmp s) (.tmp t)) (h : a.tmps.getD s undef = .pointer (some ⟨B, 0, none⟩)) (h' : a.tmps.getD t undef = .slice (some ⟨b, o, none⟩) N c) (hx : BoxR w B 46 #[.slice none 0 0]) :
  (execOp a.eval oo).run Tryz.prog w = .ok .skip (w.setCell ⟨B, 0, none⟩ (.slice (some ⟨b, o, none⟩) N c)) := by
 have he : a.tmps[s]?.getD undef = .pointer (some ⟨B, 0, none⟩) := by rw [← Array.getD_eq_getD_getElem?]; exact h
 have he' : a.tmps[t]?.getD undef = .slice (some ⟨b, o, none⟩) N c := by rw [← Array.getD_eq_getD_getElem?]; exact h'
 have c0 : w.cell? ⟨B, 0, none⟩ = some (.slice none 0 0) := hx.cell 0
 have z0 := hx.frozen 0
 simp [go_sem, execOp, ho, he, he', c0, z0]
theorem step3 {n : Nat} {Q : Exit → Act → World → Prop} (h : I3 b o N c cc sa sn sc A0 W1 listed a w) (t1 : A0.tmps.getD 1 undef = .slice (some ⟨b, o, none⟩) (N + 1) c) (hb : b < W1.heap.size) (hN : N ≤ 1000) (hNc : N + 1 ≤ c)
  (d1 : W1.cell? ⟨b, o + N * 2, none⟩ = some (.int .i64 cc)) (d2 : W1.cell? ⟨b, o + N * 2 + 1, none⟩ = some (.slice sa sn sc)) : ∀ i, i < 15 → i ∈ Region.ready .any ops3 listed →
  wpOpIn Fence.wide n Tryz.prog ops3 Q i (fun a' w' => I3 b o N c cc sa sn sc A0 W1 (listed.setIfInBounds i true) a' w') a w
 | 0, hi, hr => op3 (oo := ops3[0]) rfl rfl (fun c hc => by cases hc) (ex_mv (s := 1) rfl ((h.oth 1 (.inl (by decide)) (by decide) (by decide)).trans t1)) (h.put (i := 0) (by decide) hr)
 | 1, hi, hr => op3 (oo := ops3[1]) rfl rfl (fun c hc => by cases hc) (ex_mv (s := 1) rfl ((h.oth 1 (.inl (by decide)) (by decide) (by decide)).trans t1)) (h.put (i := 1) (by decide) hr)
 | 2, hi, hr => op3 (oo := ops3[2]) rfl rfl (fun c hc => by cases hc) (ex_len (s := 19) (m := N + 1) rfl (h.val 1 (by decide) (deps3_of hr (d := 1) (by kernel_rfl)))) (h.put (i := 2) (by decide) hr)
 | 3, hi, hr => op3 (oo := ops3[3]) rfl rfl (fun c hc => by cases hc) (ex_sub1 (s := 20) hN rfl (h.val 2 (by decide) (deps3_of hr (d := 2) (by kernel_rfl)))) (h.put (i := 3) (by decide) hr)
 | 4, hi, hr => op3 (oo := ops3[4]) rfl rfl (fun c hc => by cases hc) (ex_ia (s := 18) (t := 21) (c := c) hN rfl (h.val 0 (by decide) (deps3_of hr (d := 0) (by kernel_rfl))) (h.val 3 (by decide) (deps3_of hr (d := 3) (by kernel_rfl)))) (h.put (i := 4) (by decide) hr)
 | 5, hi, hr => op3 (oo := ops3[5]) rfl rfl (fun c hc => by cases hc) (ex_ld2 (s := 22) rfl (h.val 4 (by decide) (deps3_of hr (d := 4) (by kernel_rfl))) ((h.be.cell (p := ⟨b, o + N * 2, none⟩) hb).trans d1) ((h.be.cell (p := ⟨b, o + N * 2 + 1, none⟩) hb).trans d2)) (h.put (i := 5) (by decide) hr)
 | 6, hi, hr => op3 (oo := ops3[6]) rfl rfl (fun c hc => by cases hc) (ex_mv (s := 1) rfl ((h.oth 1 (.inl (by decide)) (by decide) (by decide)).trans t1)) (h.put (i := 6) (by decide) hr)
 | 7, hi, hr => op3 (oo := ops3[7]) rfl rfl (fun c hc => by cases hc) (ex_mv (s := 1) rfl ((h.oth 1 (.inl (by decide)) (by decide) (by decide)).trans t1)) (h.put (i := 7) (by decide) hr)
 | 8, hi, hr => op3 (oo := ops3[8]) rfl rfl (fun c hc => by cases hc) (ex_len (s := 25) (m := N + 1) rfl (h.val 7 (by decide) (deps3_of hr (d := 7) (by kernel_rfl)))) (h.put (i := 8) (by decide) hr)
 | 9, hi, hr => op3 (oo := ops3[9]) rfl rfl (fun c hc => by cases hc) (ex_sub1 (s := 26) hN rfl (h.val 8 (by decide) (deps3_of hr (d := 8) (by kernel_rfl)))) (h.put (i := 9) (by decide) hr)
 | 10, hi, hr => op3 (oo := ops3[10]) rfl rfl (fun c hc => by cases hc) (ex_slc (s := 24) (t := 27) hN hNc rfl (h.val 6 (by decide) (deps3_of hr (d := 6) (by kernel_rfl))) (h.val 9 (by decide) (deps3_of hr (d := 9) (by kernel_rfl)))) (h.put (i := 10) (by decide) hr)
 | 11, hi, hr => op3 (oo := ops3[11]) rfl rfl (fun c hc => by cases hc) (ex_al45 rfl) (h.alloc7 hr)
 | 12, hi, hr => op3 (oo := ops3[12]) rfl rfl (fun c hc => by cases hc) (ex_al46 rfl) (h.alloc8 hr)
 | 13, hi, hr => by
  obtain ⟨B, h1, h2, h3⟩ := h.b7 (deps3_of hr (d := 11) (by kernel_rfl))
  have hl : listed.getD 13 false = false := by
   have hlt := ready_lt hr
   have h1 := (ready_at (o := ops3[13]) hr (Array.getElem?_eq_getElem hlt)).1
   have hi : 13 < listed.size := by rw [h.sz]; decide
   simpa [Array.getD, hi] using h1
  rw [hl] at h3
  exact op3s (oo := ops3[13]) rfl rfl rfl (fun c hc => by cases hc) (ex_st45 (s := 7) (t := 23) rfl h2 (h.val 5 (by decide) (deps3_of hr (d := 5) (by kernel_rfl))) h3) (h.store7 hr h1 h2 h3)
 | 14, hi, hr => by
  obtain ⟨B, h1, h2, h3⟩ := h.b8 (deps3_of hr (d := 12) (by kernel_rfl))
  have hl : listed.getD 14 false = false := by
   have hlt := ready_lt hr
   have h1 := (ready_at (o := ops3[14]) hr (Array.getElem?_eq_getElem hlt)).1
   have hi : 14 < listed.size := by rw [h.sz]; decide
   simpa [Array.getD, hi] using h1
  rw [hl] at h3
  exact op3s (oo := ops3[14]) rfl rfl rfl (fun c hc => by cases hc) (ex_st46 (s := 8) (t := 28) rfl h2 (h.val 10 (by decide) (deps3_of hr (d := 10) (by kernel_rfl))) h3) (h.store8 hr h1 h2 h3)
 | i + 15, hi, _ => by omega
theorem deps3_lt : ((List.range 15).all fun i => (deps3 i).all fun d => decide (d < i)) = true := by kernel_rfl
theorem all_listed3 {listed : Array Bool} (hs : listed.size = 15) (hr : Region.ready .any ops3 listed = []) : ∀ i, i < 15 → listed.getD i false = true := by
 intro i
 induction i using Nat.strongRecOn with
 | ind i ih =>
  intro hi
  cases hl : listed.getD i false with
  | true => rfl
  | false =>
   exfalso
   have hlt : i < ops3.size := hi
   have hm : i ∈ Region.ready .any ops3 listed := by
    unfold Region.ready
    rw [List.mem_filter]
    refine ⟨by simpa using hlt, ?_⟩
    have h1 : listed.getD i true = false := by
     have hi' : i < listed.size := by omega
     simp [Array.getD, hi'] at hl ⊢
     exact hl
    rw [h1, Array.getElem?_eq_getElem hlt]
    simp only [Bool.not_false, Option.map_some, Option.getD_some, Bool.true_and]
    rw [Array.all_eq_true_iff_forall_mem]
    intro e he
    cases hb : Region.binds .any e with
    | false => rfl
    | true =>
     have hd : e.on ∈ deps3 i := by
      unfold deps3
      rw [Array.getElem?_eq_getElem hlt]
      simp only [Option.map_some, Option.getD_some, List.mem_map, List.mem_filter]
      exact ⟨e, ⟨by simpa using he, hb⟩, rfl⟩
     have h2 := List.all_eq_true.1 (List.all_eq_true.1 deps3_lt i (by simpa using hi)) _ hd
     have h3 := of_decide_eq_true h2
     rw [ih _ h3 (by omega)]
     rfl
   rw [hr] at hm
   cases hm
theorem getD_set {A : Array Value} {i j : Nat} {v : Value} (h : j < A.size) : (A.setIfInBounds j v).getD i undef = if i = j then v else A.getD i undef := by
 by_cases hj : i = j
 ·subst hj; simp [Array.getD, h]
 ·rw [if_neg hj]
  simp only [Array.getD_eq_getD_getElem?, Array.getElem?_setIfInBounds_ne (fun e => hj e.symm)]
theorem arr_ext {A B : Array Value} (h : A.size = B.size) (hh : ∀ i, A.getD i undef = B.getD i undef) : A = B := by
 refine Array.ext h fun i h1 h2 => ?_
 have := hh i
 simpa [Array.getD, h1, h2] using this
def act3 (b o N c : Nat) (cc : Int) (sa : Option Addr) (sn sc : Nat) (A : Array Value) (B7 B8 : Nat) : Array Value :=
 ((((((((((((A.setIfInBounds 18 (V3 b o N c cc sa sn sc 18)).setIfInBounds 19 (V3 b o N c cc sa sn sc 19)).setIfInBounds 20 (V3 b o N c cc sa sn sc 20)).setIfInBounds 21 (V3 b o N c cc sa sn sc 21)).setIfInBounds 22 (V3 b o N c cc sa sn sc 22)).setIfInBounds 23 (V3 b o N c cc sa sn sc 23)).setIfInBounds 24 (V3 b o N c cc sa sn sc 24)).setIfInBounds 25 (V3 b o N c cc sa sn sc 25)).setIfInBounds 26 (V3 b o N c cc sa sn sc 26)).setIfInBounds 27 (V3 b o N c cc sa sn sc 27)).setIfInBounds 28 (V3 b o N c cc sa sn sc 28)).setIfInBounds 7 (.pointer (some ⟨B7, 0, none⟩))).setIfInBounds 8 (.pointer (some ⟨B8, 0, none⟩))
theorem act3_eq {A T : Array Value} {B7 B8 : Nat} (hA : A.size = 94) (hT : T.size = 94) (hv : ∀ i, i < 11 → T.getD (18 + i) undef = V3 b o N c cc sa sn sc (18 + i)) (h7 : T.getD 7 undef = .pointer (some ⟨B7, 0, none⟩)) (h8 : T.getD 8 undef = .pointer (some ⟨B8, 0, none⟩))
  (ho : ∀ d, (d < 18 ∨ 28 < d) → d ≠ 7 → d ≠ 8 → T.getD d undef = A.getD d undef) : T = act3 b o N c cc sa sn sc A B7 B8 := by
 refine arr_ext (by simp [act3, hA, hT]) fun i => ?_
 unfold act3
 have z : ∀ (j : Nat) (X : Array Value), X.size = 94 → j < 94 → j < X.size := fun j X h1 h2 => by omega
 simp only [getD_set, Array.size_setIfInBounds, hA, Nat.reduceLT]
 by_cases i7 : i = 7
 ·subst i7; simpa using h7
 by_cases i8 : i = 8
 ·subst i8; simpa using h8
 by_cases hi : i < 18 ∨ 28 < i
 ·rw [ho i hi i7 i8]
  repeat rw [if_neg (by omega)]
 ·have : i = 18 ∨ i = 19 ∨ i = 20 ∨ i = 21 ∨ i = 22 ∨ i = 23 ∨ i = 24 ∨ i = 25 ∨ i = 26 ∨ i = 27 ∨ i = 28 := by omega
  have hvi := hv (i - 18) (by omega)
  rw [show 18 + (i - 18) = i by omega] at hvi
  rcases this with rfl | rfl | rfl | rfl | rfl | rfl | rfl | rfl | rfl | rfl | rfl <;> simpa using hvi
theorem reg3_in {n : Nat} {Q : Exit → Act → World → Prop} {A : Array Value} (hA : A.size = 94) (t1 : A.getD 1 undef = .slice (some ⟨b, o, none⟩) (N + 1) c) (hb : b < W1.heap.size) (hN : N ≤ 1000) (hNc : N + 1 ≤ c)
  (d1 : W1.cell? ⟨b, o + N * 2, none⟩ = some (.int .i64 cc)) (d2 : W1.cell? ⟨b, o + N * 2 + 1, none⟩ = some (.slice sa sn sc))
  (hQ : ∀ B7 B8 w', W1.heap.size ≤ B7 → W1.heap.size ≤ B8 → BoxR w' B7 45 #[.int .i64 cc, .slice sa sn sc] → BoxR w' B8 46 #[.slice (some ⟨b, o, none⟩) N c] → KeepsOthers W1 w' → Below W1.heap.size W1 w' → Q .normal { tmps := act3 b o N c cc sa sn sc A B7 B8, defers := [] } w') :
  (Code.region 3 ops3 true).wpIn Fence.wide n Tryz.prog Q { tmps := A, defers := [] } W1 := by
 refine wpIn_region_any (by kernel_rfl) ?_
 refine any_inv (I3 b o N c cc sa sn sc { tmps := A, defers := [] } W1) (fun _ _ _ h => h.sz.trans rfl) (fun listed a w i h hr => step3 h t1 hb hN hNc d1 d2 i (ready_lt hr) hr) (fun listed a w h hr => ?_) _ _ _ _ ?_ ?_
 ·have hall := all_listed3 h.sz hr
  obtain ⟨B7, g1, g2, g3⟩ := h.b7 (hall 11 (by decide))
  obtain ⟨B8, k1, k2, k3⟩ := h.b8 (hall 12 (by decide))
  rw [if_pos (hall 13 (by decide))] at g3
  rw [if_pos (hall 14 (by decide))] at k3
  have key := hQ B7 B8 w g1 k1 g3 k3 h.ko h.be
  have he := act3_eq hA h.tz (fun i hi => h.val i hi (hall i (by omega))) g2 k2 h.oth
  have hd := h.df
  obtain ⟨T, df⟩ := a
  have he' : T = _ := he
  have hd' : df = [] := hd
  rw [he', hd']
  exact key
 ·have nof : ∀ i, (Array.replicate ops3.size false).getD i false = false := fun i => by simp [Array.getD]
  refine ⟨by rfl, hA, rfl, fun i _ hl => ?_, fun d _ _ _ => rfl, fun i d _ hl => ?_, fun hl => ?_, fun hl => ?_, ⟨Nat.le_refl _, fun b o h _ => h⟩, (Below.refl _ W1).drew⟩
  ·rw [nof] at hl; cases hl
  ·rw [nof] at hl; cases hl
  ·rw [nof] at hl; cases hl
  ·rw [nof] at hl; cases hl
 ·exact Nat.le_of_eq (by rfl)
end
end Go.Proofs.YtcogfddcdpgpkaaGreatDoor
namespace Go.Proofs.YtcogfddcdpgpkaaGreatDoor
open Go.Proofs Go.RowKit Go.Shelf Go.Av
attribute [local go_sem] Oper.semAt_some
set_option maxRecDepth 100000 in
set_option maxHeartbeats 4000000 in
theorem row_any (w : World) (p v1 v2 v3 v4 : Value) (hv : p.oneCell' = true ∧ v1.oneCell' = true ∧ v2.oneCell' = true ∧ v3.oneCell' = true ∧ v4.oneCell' = true) (k0 : Int) (ns : List Nd) (hR : RightT ns) (hk0 : elB ns k0 = true)
  (b o N c : Nat) (hN : N ≤ 1000) (hN0 : N ≠ 0) (hNc : N + 1 ≤ c) (hb : b < w.heap.size) (sa : Option Addr) (sn sc : Nat)
  (hc1 : w.cell? ⟨b, o + N * 2, none⟩ = some (.int .i64 1)) (hc2 : w.cell? ⟨b, o + N * 2 + 1, none⟩ = some (.slice sa sn sc))
  (hfit : ∀ W, Below w.heap.size w W → Calls Tryz.prog 79 #[.agg #[p, v1, v2, v3, v4], .agg #[.int .i64 1, .slice sa sn sc], .int .i64 k0] W fun e W' => e = .returned (.bool true) ∧ Below W.heap.size W W')
  (hpar : ∀ (m : Int) (W : World), Below w.heap.size w W → Calls Tryz.prog 66 #[p, .int .i64 m] W fun e w' => e = .returned (parV (parI ns m)) ∧ Below W.heap.size W w')
  (V : Int → Bool) (hrec : ∀ m : Int, elB ns m = true → ∀ W, Below w.heap.size w W → Calls Tryz.prog 45 #[.agg #[p, v1, v2, v3, v4], .slice (some ⟨b, o, none⟩) N c, .int .i64 m] W fun e W' => e = .returned (.bool (V m)) ∧ Below W.heap.size W W')
  (U : List Int) (hU : U = upsI ns (k0.toNat + 1) k0) :
  Calls Tryz.prog 45 #[.agg #[p, v1, v2, v3, v4], .slice (some ⟨b, o, none⟩) (N + 1) c, .int .i64 k0] w fun e W' => e = .returned (.bool (U.any V)) ∧ Below w.heap.size w W' := by
 obtain ⟨o1, o2, o3, o4, o5⟩ := hv
 refine (callsIn_wide (n := 9)).1 ?_
 refine callsIn_of_wp_marks Tryz.func45 rfl trivial ?_ rfl
 simp only [Tryz.ntmps45, List.size_toArray, List.length_cons, List.length_nil, Nat.reduceAdd, Nat.reduceSub, Array.replicate_succ, Array.replicate_zero, List.push_toArray, List.append_toArray, List.nil_append, List.cons_append]
 gi_wp2
 rename_i Q' hz K hK
 have bE := ((BoxR.new w 92 #[p, v1, v2, v3, v4]).alloc (.cells #[.bool false] 4))
 have bR := BoxR.new (w.alloc (.cells #[p, v1, v2, v3, v4] 92)) 4 #[.bool false]
 have hB1 : Below w.heap.size w ((w.alloc (.cells #[p, v1, v2, v3, v4] 92)).alloc (.cells #[.bool false] 4)) := ((Below.refl _ w).alloc (Nat.le_refl _) _).alloc (by simp) _
 have hs1 : ((w.alloc (.cells #[p, v1, v2, v3, v4] 92)).alloc (.cells #[.bool false] 4)).heap.size = w.heap.size + 2 := by simp
 simp only [World.size_alloc] at bR
 obtain ⟨W1, hW1⟩ : ∃ W1, ((w.alloc (.cells #[p, v1, v2, v3, v4] 92)).alloc (.cells #[.bool false] 4)) = W1 := ⟨_, rfl⟩
 rw [hW1] at bE bR hB1 hs1 ⊢
 clear hW1
 have d1 := (hB1.cell (p := ⟨b, o + N * 2, none⟩) hb).trans hc1
 have d2 := (hB1.cell (p := ⟨b, o + N * 2 + 1, none⟩) hb).trans hc2
 refine reg3_in (W1 := W1) (b := b) (o := o) (N := N) (c := c) (cc := 1) (sa := sa) (sn := sn) (sc := sc) rfl rfl (by omega) hN hNc d1 d2 fun B7 B8 w2 g7 g8 b7 b8 hko hbe => ?_
 have bE2 := bE.below hbe (by omega)
 have bR2 := bR.below hbe (by omega)
 have hB2 : Below w.heap.size w w2 := hB1.trans (hbe.mono (by omega))
 have hs2 := hbe.size
 simp only [act3, V3, List.setIfInBounds_toArray, List.set_cons_succ, List.set_cons_zero]
 have e0 : w2.cell? ⟨w.heap.size, 0, none⟩ = some p := bE2.cell 0
 have e1 : w2.cell? ⟨w.heap.size, 1, none⟩ = some v1 := bE2.cell 1
 have e2 : w2.cell? ⟨w.heap.size, 2, none⟩ = some v2 := bE2.cell 2
 have e3 : w2.cell? ⟨w.heap.size, 3, none⟩ = some v3 := bE2.cell 3
 have e4 : w2.cell? ⟨w.heap.size, 4, none⟩ = some v4 := bE2.cell 4
 have s0 : w2.cell? ⟨B7, 0, none⟩ = some (.int .i64 1) := b7.cell 0
 have s1 : w2.cell? ⟨B7, 1, none⟩ = some (.slice sa sn sc) := b7.cell 1
 have hF := hfit w2 hB2
 have hNi : ((N : Int) == 0) = false := by rw [beq_eq_false_iff_ne]; omega
 refine hK _ _ ?_
 gi_wp2_with (refine ⟨trivial, ?_⟩; gi_at_call 79; refine (callsIn_wide.2 hF).mono ?_; rintro e w3 ⟨rfl, hb3⟩; have bE3 := bE2.below hb3 bE2.lt; have b73 := b7.below hb3 b7.lt; have b83 := b8.below hb3 b8.lt; have t0 : w3.cell? ⟨w.heap.size, 0, none⟩ = some p := bE3.cell 0; have t1 : w3.cell? ⟨w.heap.size, 1, none⟩ = some v1 := bE3.cell 1; have t2 : w3.cell? ⟨w.heap.size, 2, none⟩ = some v2 := bE3.cell 2; have t3 : w3.cell? ⟨w.heap.size, 3, none⟩ = some v3 := bE3.cell 3; have t4 : w3.cell? ⟨w.heap.size, 4, none⟩ = some v4 := bE3.cell 4; have t7 : w3.cell? ⟨B7, 0, none⟩ = some (.int .i64 1) := b73.cell 0; have t8 : w3.cell? ⟨B8, 0, none⟩ = some (.slice (some ⟨b, o, none⟩) N c) := b83.cell 0)
 refine ⟨trivial, ?_⟩
 gi_at_call 81
 refine (above_in Fence.wide _ trivial rfl #[p, v1, v2, v3, v4] k0 w3 rfl ?_).mono ?_
 ·intro v hv
  simp only [List.mem_toArray, List.mem_cons, List.not_mem_nil, or_false] at hv
  rcases hv with rfl | rfl | rfl | rfl | rfl <;> assumption
 rintro e w4' ⟨rfl, hw4⟩
 gi_wp2
 have bE4 := (bE3.alloc (.cells #[p, v1, v2, v3, v4] 92)).alloc (.cells #[.int .i64 k0] 3)
 have bR3 := bR2.below hb3 bR2.lt
 have bR4 := (bR3.alloc (.cells #[p, v1, v2, v3, v4] 92)).alloc (.cells #[.int .i64 k0] 3)
 have b84 := (b83.alloc (.cells #[p, v1, v2, v3, v4] 92)).alloc (.cells #[.int .i64 k0] 3)
 have bI := (BoxR.new w3 92 #[p, v1, v2, v3, v4]).alloc (.cells #[.int .i64 k0] 3)
 have bJ := BoxR.new (w3.alloc (.cells #[p, v1, v2, v3, v4] 92)) 3 #[.int .i64 k0]
 have hs3 := hb3.size
 have hB3 : Below w.heap.size w w3 := hB2.trans (hb3.mono (by omega))
 have hB4 : Below w.heap.size w ((w3.alloc (.cells #[p, v1, v2, v3, v4] 92)).alloc (.cells #[.int .i64 k0] 3)) := (hB3.alloc (by omega) _).alloc (by simp; omega) _
 have hs4 : ((w3.alloc (.cells #[p, v1, v2, v3, v4] 92)).alloc (.cells #[.int .i64 k0] 3)).heap.size = w3.heap.size + 2 := by simp
 simp only [World.size_alloc] at bJ
 clear t0 t1 t2 t3 t4 t7 t8 e0 e1 e2 e3 e4 s0 s1
 obtain ⟨W0, hW0⟩ : ∃ W0, ((w3.alloc (.cells #[p, v1, v2, v3, v4] 92)).alloc (.cells #[.int .i64 k0] 3)) = W0 := ⟨_, rfl⟩
 rw [hW0] at bE4 bR4 b84 bI bJ hB4 hs4 ⊢
 clear hW0
 have hUe : ∀ x : Fin U.length, elB ns (U.get x) = true := fun x => (ups_el hR _ k0 hk0 (U.get x) (by rw [← hU]; exact List.get_mem U x)).1
 refine wpIn_rangeFunc_ownH (F := Fence.wide) (n := 9) rfl (by omega) (gf := 112) (lb := #[.pointer (some ⟨w3.heap.size, 0, none⟩), .pointer (some ⟨w3.heap.size + 1, 0, none⟩)]) rfl trivial (enters_of Tryz.func112 (by kernel_rfl) rfl)
  (above_stops 8 (by omega) w3.heap.size (w3.heap.size + 1) W0.heap.size ns hR k0 hk0 U hU p W0 (fun m W' hb => hpar m W' (hB4.trans (hb.mono hB4.size))) (Nat.le_refl _) (by omega) (by omega) (bI.cell 0) (bJ.cell 0) o1) belowK_t (belowK_b (Nat.le_refl _)) (Below.refl _ _) (fun _ => rfl)
  (fun pre W => BoxR W w.heap.size 92 #[p, v1, v2, v3, v4] ∧ BoxR W (w.heap.size + 1) 4 #[.bool false] ∧ BoxR W B8 46 #[.slice (some ⟨b, o, none⟩) N c] ∧ Below w.heap.size w W ∧ (∀ x ∈ pre, V (U.get x) = false) ∧ W0.heap.size ≤ W.heap.size)
  (fun cd pre W => cd = .ret ∧ BoxR W (w.heap.size + 1) 4 #[.bool true] ∧ Below w.heap.size w W ∧ ∃ x ∈ pre, V (U.get x) = true)
  ?own (fun _ => ?ownx) ⟨bE4, bR4, b84, hB4, fun x hx => absurd hx (by simp), Nat.le_refl _⟩
  (fun x a' W => a' = { tmps := #[Value.agg #[p, v1, v2, v3, v4], Value.slice (some ⟨b, o, none⟩) (N + 1) c, Value.int IntKind.i64 k0, Value.pointer (some ⟨w.heap.size, 0, none⟩), undef, undef, Value.pointer (some ⟨w.heap.size + 1, 0, none⟩), Value.pointer (some ⟨B7, 0, none⟩), Value.pointer (some ⟨B8, 0, none⟩), undef, undef, undef, undef, Value.int IntKind.i64 (U.get x), undef, Value.slice (some ⟨b, o, none⟩) (N + 1) c, Value.int IntKind.i64 ((N : Int) + 1), Value.bool false, Value.slice (some ⟨b, o, none⟩) (N + 1) c, Value.slice (some ⟨b, o, none⟩) (N + 1) c, Value.int IntKind.i64 ((N : Int) + 1), Value.int IntKind.i64 (N : Int), Value.pointer (some ⟨b, o + N * 2, none⟩), Value.agg #[Value.int IntKind.i64 1, Value.slice sa sn sc], Value.slice (some ⟨b, o, none⟩) (N + 1) c, Value.slice (some ⟨b, o, none⟩) (N + 1) c, Value.int IntKind.i64 ((N : Int) + 1), Value.int IntKind.i64 (N : Int), Value.slice (some ⟨b, o, none⟩) N c, Value.agg #[p, v1, v2, v3, v4], Value.agg #[Value.int IntKind.i64 1, Value.slice sa sn sc], Value.int IntKind.i64 k0, Value.bool true, Value.bool false, Value.slice (some ⟨b, o, none⟩) N c, Value.int IntKind.i64 (N : Int), Value.bool false, Value.pointer (some ⟨B7, 0, none⟩), Value.int IntKind.i64 1, Value.bool false, Value.bool false, undef, undef, undef, undef, undef, undef, undef, undef, undef, undef, undef, undef, undef, undef, Value.bool false, Value.bool false, undef, undef, undef, undef, undef, undef, undef, undef, undef, undef, undef, undef, undef, undef, Value.bool true, Value.bool true, Value.agg #[p, v1, v2, v3, v4], Value.int IntKind.i64 k0, Value.func (Fn.func 112) #[] #[Value.pointer (some ⟨w3.heap.size, 0, none⟩), Value.pointer (some ⟨w3.heap.size + 1, 0, none⟩)], Value.int IntKind.i64 (U.get x), undef, undef, undef, undef, undef, undef, undef, undef, undef, undef, undef, undef, undef, undef, undef, undef, undef], defers := [] })
  (fun x a' _ X Y row hs hg hr => hs)
  ?assign ?body ?done ?stop
 case own =>
  intro pre X Y row hs hg hr
  obtain ⟨i1, i2, i3, i4, i5, i6⟩ := hs
  exact ⟨boxR_own _ _ (fun (_ : Unit) => _) () X Y row i1 hg (fun r e => (hr r e).2), boxR_own _ _ (fun (_ : Unit) => _) () X Y row i2 hg (fun r e => (hr r e).2), boxR_own _ _ (fun (_ : Unit) => _) () X Y row i3 hg (fun r e => (hr r e).2), (ownFrom_below (β := Unit) (Nat.le_refl _) hB4.size) () X Y row i4 hg hr, i5, Nat.le_trans i6 hg.size⟩
 case ownx =>
  intro pre X Y row hs hg hr
  obtain ⟨i1, i2, i3, i4⟩ := hs
  exact ⟨i1, boxR_own _ _ (fun (_ : Unit) => _) () X Y row i2 hg (fun r e => (hr r e).2), (ownFrom_below (β := Unit) (Nat.le_refl _) hB4.size) () X Y row i3 hg hr, i4⟩
 case assign =>
  rintro l pre x W KK hI hKK
  clear hU hUe
  gi_wp2
  exact hKK _ _ ((KeepsOthers.refl _).from _) (Below.refl _ _) hI rfl
 case body =>
  rintro l pre x a' W hl ⟨r, hr⟩ ⟨i1, i2, i3, i4, i5, i6⟩ rfl hlt
  have hO := hrec (U.get x) (hUe x) W i4
  have e0 : W.cell? ⟨w.heap.size, 0, none⟩ = some p := i1.cell 0
  have e1 : W.cell? ⟨w.heap.size, 1, none⟩ = some v1 := i1.cell 1
  have e2 : W.cell? ⟨w.heap.size, 2, none⟩ = some v2 := i1.cell 2
  have e3 : W.cell? ⟨w.heap.size, 3, none⟩ = some v3 := i1.cell 3
  have e4 : W.cell? ⟨w.heap.size, 4, none⟩ = some v4 := i1.cell 4
  have e8 : W.cell? ⟨B8, 0, none⟩ = some (.slice (some ⟨b, o, none⟩) N c) := i3.cell 0
  clear hU hUe hrec hfit hpar
  dsimp only
  generalize hm : U.get x = m at *
  cases hv : V m with
  | false =>
   rw [hv] at hO
   gi_wp2_with (refine ⟨trivial, ?_⟩; gi_at_call 45; refine (CallsIn.inRound l (callsIn_wide.2 hO)).mono ?_; rintro e W2 ⟨rfl, hb2⟩)
   refine ⟨(keeps_below hb2).from _, hb2.mono i6, i1.below hb2 i1.lt, i2.below hb2 i2.lt, i3.below hb2 i3.lt, i4.trans (hb2.mono i4.size), fun y hy => ?_, Nat.le_trans i6 hb2.size⟩
   rcases List.mem_append.1 hy with hy | hy
   ·exact i5 y hy
   ·rw [List.mem_singleton] at hy
    subst hy
    rw [hm]
    exact hv
  | true =>
   rw [hv] at hO
   gi_wp2_with (refine ⟨trivial, ?_⟩; gi_at_call 45; refine (CallsIn.inRound l (callsIn_wide.2 hO)).mono ?_; rintro e W2 ⟨rfl, hb2⟩; have i2' := i2.below hb2 i2.lt; have c6 : W2.cell? ⟨w.heap.size + 1, 0, none⟩ = some (.bool false) := i2'.cell 0; have z6 := i2'.frozen 0)
   refine ⟨((keeps_below hb2).trans (KeepsOthers.setCell _ _ _)).from _, rfl, i2'.set 0 (.bool true), (i4.trans (hb2.mono i4.size)).setCell (p := ⟨w.heap.size + 1, 0, none⟩) (Nat.le_succ _) _, x, List.mem_append_right _ (List.mem_singleton.2 rfl), ?_⟩
   rw [hm]
   exact hv
 case done =>
  rintro D ys W hD rfl ⟨i1, i2, i3, i4, i5, i6⟩ hKD
  clear hU hUe hrec hfit hpar
  have c6 : W.cell? ⟨w.heap.size + 1, 0, none⟩ = some (.bool false) := i2.cell 0
  have z6 := i2.frozen 0
  dsimp only
  gi_wp2
  have hDn : D ≠ w.heap.size + 1 := by omega
  have hUf : U.any V = false := by
   rw [List.any_eq_false]
   intro m hm
   obtain ⟨x, rfl⟩ := List.mem_iff_get.1 hm
   rw [i5 x (List.mem_finRange x)]
   decide
  rw [hUf]
  have bW := i2.set 0 (.bool false)
  have hBW := i4.setCell (p := ⟨w.heap.size + 1, 0, none⟩) (Nat.le_succ _) (.bool false)
  have hKW : (W.setCell ⟨w.heap.size + 1, 0, none⟩ (.bool false)).heap[D]? = some (.deferred (some [])) := by
   simp [World.setCell, Array.getElem?_modify, Ne.symm hDn, hKD]
  generalize W.setCell ⟨w.heap.size + 1, 0, none⟩ (.bool false) = W9 at *
  refine ⟨by simp, .inl ⟨_, _, rfl, run_takeDeferred hKW, ?_⟩⟩
  have bP : BoxR (W9.putObj D (.deferred none)) (w.heap.size + 1) 4 #[.bool false] := (show BoxR W9 _ 4 #[.bool false] from bW).kept (grownBy_putObj' _ _ _) (fun e => hDn (Option.some.inj e).symm)
  have p0 : (W9.putObj D (.deferred none)).cell? ⟨w.heap.size + 1, 0, none⟩ = some (.bool false) := bP.cell 0
  refine ⟨.bool false, ?_, rfl, hBW.trans (belowK_b (w := w) (Nat.le_refl _) W9 D _ _ (by omega) hKW rfl rfl)⟩
  generalize W9.putObj D (.deferred none) = W10 at *
  simp [results, go_sem, p0, Tryz.f45]
 case stop =>
  rintro D cd pre W hDs _ ⟨rfl, i2, i3, i4⟩ hD
  have c6 : W.cell? ⟨w.heap.size + 1, 0, none⟩ = some (.bool true) := i2.cell 0
  clear hU hUe hrec hfit hpar
  dsimp only
  gi_wp2
  have hDn : D ≠ w.heap.size + 1 := by omega
  have hUt : U.any V = true := by
   obtain ⟨x, _, hx⟩ := i4
   exact List.any_eq_true.2 ⟨U.get x, List.get_mem U x, hx⟩
  rw [hUt]
  refine ⟨by simp, .inl ⟨_, _, rfl, run_takeDeferred hD, ?_⟩⟩
  have bP : BoxR (W.putObj D (.deferred none)) (w.heap.size + 1) 4 #[.bool true] := i2.kept (grownBy_putObj' _ _ _) (fun e => hDn (Option.some.inj e).symm)
  have p0 : (W.putObj D (.deferred none)).cell? ⟨w.heap.size + 1, 0, none⟩ = some (.bool true) := bP.cell 0
  refine ⟨.bool true, ?_, rfl, i3.trans (belowK_b (w := w) (Nat.le_refl _) W D _ _ (by omega) hD rfl rfl)⟩
  generalize W.putObj D (.deferred none) = W10 at *
  simp [results, go_sem, p0, Tryz.f45]
end Go.Proofs.YtcogfddcdpgpkaaGreatDoor
namespace Go.Av
open Go.Proofs
variable [Rk] {chk : List D → Bool}
theorem wrapL {n : Nat} (h : n ≤ 1000000) (h0 : n ≠ 0) : IntKind.i64.wrap ((n : Int) - 1) = ((n - 1 : Nat) : Int) := by
 rw [wrap64 _ (by omega) (by omega)]; omega
theorem last_getD {l : List D} {x : D} (h : l.getLast? = some x) : l.getD (l.length - 1) .bad = x ∧ l.length ≠ 0 := by
 rw [List.getLast?_eq_getElem?] at h
 refine ⟨by simp [List.getD, h], ?_⟩
 have := (List.getElem?_eq_some_iff.1 h).1
 omega
theorem ne0 {n : Nat} (h : n ≠ 0) : ((n : Int) == 0) = false := by
 rw [beq_eq_false_iff_ne]; omega
theorem eqI {a b : Int} (h : a = b) : (a == b) = true ∧ (a != b) = false ∧ decide (a = b) = true := by simp [h]
theorem neI {a b : Int} (h : ¬ a = b) : (a == b) = false ∧ (a != b) = true ∧ decide (a = b) = false := by simp [h]
set_option maxHeartbeats 1000000 in
theorem pseudo_L {k : Nat} (c : D) (h : cxOk 100 (smOk 100 (k + 1)) c = true) : callL Tryz.prog (ext11b chk) 44 [c] [] = some (.str (pseudoF c), [.no], []) := by
 obtain ⟨l, rfl, hl, hx⟩ := cxOk_inv h
 unfold pseudoF cxD cxL
 dsimp only
 cases hL : l.getLast? with
 | none =>
  rw [List.getLast?_eq_none_iff] at hL
  subst hL
  clear hx hl h
  exact cWy 37 2 Tryz.func44
 | some x =>
  obtain ⟨cc, sl, rfl, hsl, hs⟩ := cpOk_inv (hx x (List.mem_of_getLast? hL))
  obtain ⟨hg, h0⟩ := last_getD hL
  have h0' := ne0 h0
  have hw := wrapL (by omega) h0
  have hlt : ((l.length - 1 : Nat) : Int) < l.length := by omega
  have hge : (0 : Int) ≤ ((l.length - 1 : Nat) : Int) := by omega
  clear hL hx h hl
  unfold cpD at hg ⊢
  simp only [cpL]
  cases hS : sl.getLast? with
  | none =>
   rw [List.getLast?_eq_none_iff] at hS
   subst hS
   clear hs hsl
   exact cWy 37 2 Tryz.func44
  | some s =>
   obtain ⟨e, _⟩ := smOk_inv (hs s (List.mem_of_getLast? hS))
   obtain ⟨sg, s0⟩ := last_getD hS
   have s0' := ne0 s0
   have sw := wrapL (by omega) s0
   have slt : ((sl.length - 1 : Nat) : Int) < sl.length := by omega
   have sge : (0 : Int) ≤ ((sl.length - 1 : Nat) : Int) := by omega
   rw [e] at sg
   show callL Tryz.prog (ext11b chk) 44 [.agg [.list l]] [] = some (.str (if (sf s).kd = 13 then (sf s).nm else []), [.no], [])
   clear hS hs hsl
   generalize sf s = S at *
   clear e
   unfold Sf.d at sg
   by_cases hk : S.kd = 13
   ·rw [if_pos hk]
    obtain ⟨k1, k2, k3⟩ := eqI hk
    clear hk
    exact cWy 37 2 Tryz.func44
   ·rw [if_neg hk]
    obtain ⟨k1, k2, k3⟩ := neI hk
    clear hk
    exact cWy 37 2 Tryz.func44
end Go.Av
namespace Go.Av
open Go.Proofs
variable [Rk] {chk : List D → Bool}
def atF (s : List UInt8) (k : Nat) (t : List UInt8) : Bool := decide (k + t.length ≤ s.length) && ((s.take (k + t.length)).drop k == t)
set_option maxHeartbeats 1000000 in
theorem at_L (s t : List UInt8) (k : Nat) (hs : s.length < 1000000000) (ht : t.length < 1000000000) (hk : k < 2000000000) : callL Tryz.prog (ext11b chk) 74 [.str s, .int .i64 k, .str t] [] = some (.bool (atF s k t), [.no], []) := by
 refine cK 29 6 Tryz.func74 ?_
 unfold atF
 have hw : IntKind.i64.wrap ((k : Int) + t.length) = ((k + t.length : Nat) : Int) := by rw [wrap64 _ (by omega) (by omega)]; omega
 have hkk : (k : Int) ≤ ((k + t.length : Nat) : Int) := by omega
 by_cases h : k + t.length ≤ s.length
 ·have h' : ((k + t.length : Nat) : Int) ≤ s.length := by omega
  exact Wy
 ·have h' : ¬ ((k + t.length : Nat) : Int) ≤ s.length := by omega
  exact Wy
theorem at_neg (s t : List UInt8) (n : Int) (hn : n < 0) : callL Tryz.prog (ext11b chk) 74 [.str s, .int .i64 n, .str t] [] = some (.bool false, [.no], []) := by
 refine cK 29 6 Tryz.func74 ?_
 have h' : ¬ 0 ≤ n := by omega
 exact Wy
def rmL (ls : List (List UInt8)) : List Room := if ls = [] then [.full] else [.own 9]
theorem blank_nat (x : UInt8) : blankB x = decide (x.toNat = 32 ∨ x.toNat = 9 ∨ x.toNat = 10 ∨ x.toNat = 13 ∨ x.toNat = 12) := by
 have key : ∀ n : Nat, n < 256 → (x == UInt8.ofNat n) = decide (x.toNat = n) := fun n hn => by
  rw [Bool.eq_iff_iff, beq_iff_eq, decide_eq_true_eq, ← UInt8.toNat_inj, UInt8.toNat_ofNat']
  omega
 unfold blankB
 have k1 := key 32 (by decide); have k2 := key 9 (by decide); have k3 := key 10 (by decide); have k4 := key 13 (by decide); have k5 := key 12 (by decide)
 rw [show (x == 32) = _ from k1, show (x == 9) = _ from k2, show (x == 10) = _ from k3, show (x == 13) = _ from k4, show (x == 12) = _ from k5]
 simp only [Bool.decide_or]
 simp only [Bool.or_assoc]
theorem szOk_strs (ls : List (List UInt8)) : szOk 1 (ls.map .str) = true := by cases ls <;> rfl
set_option maxHeartbeats 4000000 in
theorem rnames_L (l : List UInt8) (hl : l.length < 900000000) : callL Tryz.prog (ext11b chk) 76 [.str l] [] = some (.list ((partsB l []).map .str), [room1 (rmL (partsB l []))], []) := by
 refine cK 55 2 Tryz.func76 ?_
 refine Gy ?_
 refine loopH (fun s => ∃ (i : Nat) (acc : List (List UInt8)) (p : List UInt8), s.slot 5 = .int .i64 i ∧ s.slot 0 = .str l ∧ s.slot 3 = .list (acc.map .str) ∧ s.room 3 = rmL acc ∧ s.slot 4 = .str p ∧ p.length ≤ i ∧ acc.length ≤ i ∧
  ((i ≤ l.length ∧ acc ++ partsB (l.drop i) p = partsB l []) ∨ (i = l.length + 1 ∧ acc = partsB l []))) (fun s => l.length + 1 - slotI s 5) ?_ ?_
 ·exact ⟨0, [], [], Iy, Iy, Iy, Iy, Iy, Nat.le_refl _, Nat.le_refl _, .inl ⟨Nat.zero_le _, rfl⟩⟩
 ·rintro s K ⟨i, acc, p, h5, h0, h3, hrm, h4, hp, hacc, hinv⟩ hn hx hr
  rcases hinv with ⟨hi, hinv⟩ | ⟨hi, hinv⟩
  ·have hi' : (i : Int) ≤ l.length := by omega
   have hw1 : IntKind.i64.wrap ((i : Int) + 1) = ((i + 1 : Nat) : Int) := by rw [wrap64 _ (by omega) (by omega)]; omega
   have hfit : (acc.map D.str).length + 1 ≤ 1073741824 := by simp; omega
   have hsz := szOk_strs acc
   have hroom : rmL acc = [.full] ∨ rmL acc = [.own 9] ∨ rmL acc = [.fresh] := by
    unfold rmL
    split
    ·exact .inl rfl
    ·exact .inr (.inl rfl)
   have hrr : ((rmL acc = [Room.full]) ∨ (rmL acc = [Room.own 9]) ∨ (rmL acc = [Room.fresh])) = True := eq_true hroom
   have hnr : rmL (acc ++ [p]) = [.own 9] := by simp [rmL]
   have hap : acc.map D.str ++ [.str p] = (acc ++ [p]).map D.str := by simp
   have hinv' := Hd.mk hinv
   have hp' := Hd.mk hp
   have hacc' := Hd.mk hacc
   clear hroom hinv hp hacc
   by_cases hlt : i < l.length
   ·obtain ⟨x, hxl, hxd⟩ := at_get hlt
    have hlt' : (i : Int) < l.length := by omega
    have hne : ((i : Int) == l.length) = false := by simp; omega
    have hle1 : ((i + 1 : Nat) : Int) ≤ l.length := by omega
    have hle2 : (i : Int) ≤ ((i + 1 : Nat) : Int) := by omega
    have hsl : (l.take (i + 1)).drop i = [x] := by
     rw [List.take_add_one, hxl, List.drop_append, List.length_take, Nat.min_eq_left (by omega)]
     simp
    have hadd : p.length + 1 ≤ 1099511627776 := by have : p.length ≤ i := hp'; omega
    have hbn := Hd.mk (blank_nat x)
    have hdr : l.drop i = x :: l.drop (i + 1) := by
     rw [List.drop_eq_getElem_cons hlt]
     congr 1
     rw [List.getElem?_eq_getElem hlt] at hxl
     exact Option.some.inj hxl
    have hdr' := Hd.mk hdr
    have hdrop : l.drop i = x :: l.drop (i + 1) := hdr
    have hdd := Hd.mk hdrop
    clear hdr
    have hbA : Hd ((x.toNat = 32 ∨ (9 ≤ x.toNat ∧ x.toNat ≤ 13 ∧ x.toNat ≠ 11)) → blankB x = true) := fun h => by
     rw [blank_nat, decide_eq_true_eq]; omega
    have hbC : Hd (¬ (x.toNat = 32 ∨ (9 ≤ x.toNat ∧ x.toNat ≤ 13 ∧ x.toNat ≠ 11)) → blankB x = false) := fun h => by
     rw [blank_nat, decide_eq_false_iff_not]; omega
    have hpC : Hd (blankB x = false → acc ++ partsB (l.drop (i + 1)) (p ++ [x]) = partsB l []) := fun h => by
     have h1 : acc ++ partsB (l.drop i) p = partsB l [] := hinv'
     rw [show l.drop i = _ from hdr', partsB, h] at h1
     simpa using h1
    clear hbn hdr'
    cases hpe : (p == []) with
    | true =>
     have hp0 : p = [] := by simpa using hpe
     have hpA : Hd (blankB x = true → acc ++ partsB (l.drop (i + 1)) [] = partsB l []) := fun h => by
      have h1 : acc ++ partsB (l.drop i) p = partsB l [] := hinv'
      rw [hdrop, partsB, h, hp0] at h1
      simpa using h1
     clear hp0 hdrop
     repeat' (first|simp only [*, AVB, AVY, ↓reduceIte, Nat.reduceEqDiff, Nat.reduceLT, reduceCtorEq, Nat.reduceBEq, dIntBin]|refine gw_intro (fun h => ?_) (fun h => ?_) <;> try simp only [AVH] at h)
     all_goals
      first
      | (have hb : blankB x = true := hbA (by simp only [beq_eq_false_iff_ne, beq_iff_eq, bne_iff_ne, ne_eq, bne_eq_false_iff_eq] at *; omega)
         refine hn _ ⟨i + 1, acc, [], ?_, ?_, ?_, ?_, ?_, Nat.zero_le _, ?_, .inl ⟨hlt, hpA hb⟩⟩ ?_
         ·exact L
         ·exact L
         ·exact L
         ·exact L
         ·exact L
         ·have : acc.length ≤ i := hacc'
          omega
         ·simp only [slotI, *, AVB, ↓reduceIte]
          omega)
      | (have hb : blankB x = false := hbC (by simp only [beq_eq_false_iff_ne, beq_iff_eq, ne_eq, bne_eq_false_iff_eq] at *; omega)
         refine hn _ ⟨i + 1, acc, p ++ [x], ?_, ?_, ?_, ?_, ?_, ?_, ?_, .inl ⟨hlt, hpC hb⟩⟩ ?_
         ·exact L
         ·exact L
         ·exact L
         ·exact L
         ·exact L
         ·have : p.length ≤ i := hp'
          simp
          omega
         ·have : acc.length ≤ i := hacc'
          omega
         ·simp only [slotI, *, AVB, ↓reduceIte]
          omega)
    | false =>
     have hp0 : p ≠ [] := by simpa using hpe
     have hpA : Hd (blankB x = true → (acc ++ [p]) ++ partsB (l.drop (i + 1)) [] = partsB l []) := fun h => by
      have h1 : acc ++ partsB (l.drop i) p = partsB l [] := hinv'
      rw [hdrop, partsB, h, if_neg hp0] at h1
      simpa using h1
     clear hp0 hdrop
     repeat' (first|simp only [*, AVB, AVY, ↓reduceIte, Nat.reduceEqDiff, Nat.reduceLT, reduceCtorEq, Nat.reduceBEq, dIntBin]|refine gw_intro (fun h => ?_) (fun h => ?_) <;> try simp only [AVH] at h)
     all_goals
      first
      | (have hb : blankB x = true := hbA (by simp only [beq_eq_false_iff_ne, beq_iff_eq, bne_iff_ne, ne_eq, bne_eq_false_iff_eq] at *; omega)
         refine hn _ ⟨i + 1, acc ++ [p], [], ?_, ?_, ?_, ?_, ?_, Nat.zero_le _, ?_, .inl ⟨hlt, hpA hb⟩⟩ ?_
         ·exact L
         ·exact L
         ·exact L
         ·exact L
         ·exact L
         ·have : acc.length ≤ i := hacc'
          simp; omega
         ·simp only [slotI, *, AVB, ↓reduceIte]
          omega)
      | (have hb : blankB x = false := hbC (by simp only [beq_eq_false_iff_ne, ne_eq, bne_eq_false_iff_eq] at *; omega)
         refine hn _ ⟨i + 1, acc, p ++ [x], ?_, ?_, ?_, ?_, ?_, ?_, ?_, .inl ⟨hlt, hpC hb⟩⟩ ?_
         ·exact L
         ·exact L
         ·exact L
         ·exact L
         ·exact L
         ·have : p.length ≤ i := hp'
          simp
          omega
         ·have : acc.length ≤ i := hacc'
          omega
         ·simp only [slotI, *, AVB, ↓reduceIte]
          omega)
   ·have hil : i = l.length := by omega
    subst hil
    have heq : ((l.length : Int) == l.length) = true := by simp
    have h1 : acc ++ partsB [] p = partsB l [] := by
     have : acc ++ partsB (l.drop l.length) p = partsB l [] := hinv'
     rwa [List.drop_length] at this
    cases hpe : (p == []) with
    | true =>
     have hp0 : p = [] := by simpa using hpe
     have h2 : Hd (acc = partsB l []) := by
      rw [hp0] at h1
      show acc = partsB l []
      simpa [partsB] using h1
     clear hp0 h1
     refine Gy ?_
     refine hn _ ⟨l.length + 1, acc, [], ?_, ?_, ?_, ?_, ?_, Nat.zero_le _, ?_, .inr ⟨rfl, h2⟩⟩ ?_
     ·exact L
     ·exact L
     ·exact L
     ·exact L
     ·exact L
     ·have : acc.length ≤ l.length := hacc'
      omega
     ·exact Zy
    | false =>
     have hp0 : p ≠ [] := by simpa using hpe
     have h2 : Hd (acc ++ [p] = partsB l []) := by
      rw [partsB, if_neg hp0] at h1
      exact h1
     clear hp0 h1
     refine Gy ?_
     refine hn _ ⟨l.length + 1, acc ++ [p], [], ?_, ?_, ?_, ?_, ?_, Nat.zero_le _, ?_, .inr ⟨rfl, h2⟩⟩ ?_
     ·exact L
     ·exact L
     ·exact L
     ·exact L
     ·exact L
     ·have : acc.length ≤ l.length := hacc'
      simp
      omega
     ·exact Zy
  ·subst hi
   have hi' : ¬ ((l.length + 1 : Nat) : Int) ≤ l.length := by omega
   have hinv' := Hd.mk hinv
   clear hinv
   refine Gy ?_
   refine hx 0 _ ?_
   rw [show acc = _ from hinv'] at h3 hrm
   refine Gy ?_
   have hroom : rmL (partsB l []) = [.full] ∨ rmL (partsB l []) = [.own 9] := by
    unfold rmL
    split
    ·exact .inl rfl
    ·exact .inr rfl
   rcases hroom with e | e <;> rw [e] <;> rfl
end Go.Av
namespace Go.Av
open Go.Proofs
variable [Rk] {chk : List D → Bool}
def rholdF (op : Int) (t v : List UInt8) : Bool :=
 if op = 1 then true else if op = 2 then t == v else if op = 4 then (t == v || atF v 0 (t ++ [45])) else if (t == []) = true then false else
 if op = 5 then atF v 0 t else if op = 6 then (decide (t.length ≤ v.length) && atF v (v.length - t.length) t) else
 if op = 3 then (!t.any blankB && (partsB v []).any (· == t)) else if op = 7 then (List.range v.length).any (atF v · t) else false
set_option maxHeartbeats 2000000 in
theorem rholdsO_L (op : Int) (t : List UInt8) (fold : Bool) (v : List UInt8) (ht : t.length < 400000000) (hv : v.length < 400000000) (h3 : (op == 3) = false) (h7 : (op == 7) = false) :
  callL Tryz.prog (ext11b chk) 41 [condD op t fold, .str v] [] = some (.bool (rholdF op (lowC1 fold t) (lowC1 fold v)), [.no], []) := by
 unfold condD
 have hv' : (lowC1 fold v).length < 400000000 := by rw [lowC1_len]; exact hv
 have ht' : (lowC1 fold t).length < 400000000 := by rw [lowC1_len]; exact ht
 obtain ⟨r1, hl1⟩ := rlower_L (chk := chk) t (by omega)
 obtain ⟨r2, hl2⟩ := rlower_L (chk := chk) v (by omega)
 have f3 : ¬ op = 3 := by simpa using h3
 have f7 : ¬ op = 7 := by simpa using h7
 have key : ∀ t' v' : List UInt8, t'.length < 400000000 → v'.length < 400000000 →
   (callL Tryz.prog (ext11b chk) 74 [.str v', .int .i64 0, .str (t' ++ [45])] [] = some (.bool (atF v' 0 (t' ++ [45])), [.no], [])) ∧ (callL Tryz.prog (ext11b chk) 74 [.str v', .int .i64 0, .str t'] [] = some (.bool (atF v' 0 t'), [.no], [])) ∧
   callL Tryz.prog (ext11b chk) 74 [.str v', .int .i64 (IntKind.i64.wrap ((v'.length : Int) - t'.length)), .str t'] [] = some (.bool (decide (t'.length ≤ v'.length) && atF v' (v'.length - t'.length) t'), [.no], []) ∧ t'.length + 1 ≤ 1099511627776 := by
  intro t' v' h1 h2
  refine ⟨at_L v' (t' ++ [45]) 0 (by omega) (by simp; omega) (by omega), at_L v' t' 0 (by omega) (by omega) (by omega), ?_, by omega⟩
  rw [wrap64 _ (by omega) (by omega)]
  by_cases h : t'.length ≤ v'.length
  ·rw [show (v'.length : Int) - t'.length = ((v'.length - t'.length : Nat) : Int) from by omega, at_L v' t' _ (by omega) (by omega) (by omega), decide_eq_true h]
   rfl
  ·rw [at_neg v' t' _ (by omega), decide_eq_false h]
   rfl
 unfold rholdF
 cases fold with
 | false =>
  obtain ⟨k1, k2, k3, k4⟩ := key t v ht hv
  refine cK 102 4 Tryz.func41 ?_
  simp only [lowC1]
  repeat' (first|simp only [*, AVB, AVY, ↓reduceIte, Nat.reduceEqDiff, Nat.reduceLT, Nat.reduceLeDiff, reduceCtorEq, Nat.reduceBEq, String.reduceBEq, Nat.reduceAdd, Nat.reduceSub, Nat.reduceMul, Int.reduceLE, Int.reduceLT, Int.reduceToNat, Int.reduceBEq, Int.reduceBNe, List.zipWith, dIntBin]|refine gw_intro (fun h => ?_) (fun h => ?_) <;> try simp only [AVH] at h)
  all_goals try (simp_all; done)
 | true =>
  obtain ⟨k1, k2, k3, k4⟩ := key (lowB t) (lowB v) ht' hv'
  refine cK 102 4 Tryz.func41 ?_
  simp only [lowC1, if_true]
  repeat' (first|simp only [*, AVB, AVY, ↓reduceIte, Nat.reduceEqDiff, Nat.reduceLT, Nat.reduceLeDiff, reduceCtorEq, Nat.reduceBEq, String.reduceBEq, Nat.reduceAdd, Nat.reduceSub, Nat.reduceMul, Int.reduceLE, Int.reduceLT, Int.reduceToNat, Int.reduceBEq, Int.reduceBNe, List.zipWith, dIntBin]|refine gw_intro (fun h => ?_) (fun h => ?_) <;> try simp only [AVH] at h)
  all_goals try (simp_all; done)
end Go.Av
namespace Go.Av
open Go.Proofs
variable [Rk] {chk : List D → Bool}
theorem range_any_succ (p : Nat → Bool) (i : Nat) : (List.range (i + 1)).any p = ((List.range i).any p || p i) := by
 rw [List.range_succ]; simp
set_option maxHeartbeats 2000000 in
theorem rholds3_L (t : List UInt8) (fold : Bool) (v : List UInt8) (ht : t.length < 400000000) (hv : v.length < 400000000) :
  callL Tryz.prog (ext11b chk) 41 [condD 3 t fold, .str v] [] = some (.bool (rholdF 3 (lowC1 fold t) (lowC1 fold v)), [.no], []) := by
 unfold condD
 have hv' : (lowC1 fold v).length < 400000000 := by rw [lowC1_len]; exact hv
 have ht' : (lowC1 fold t).length < 400000000 := by rw [lowC1_len]; exact ht
 obtain ⟨r1, hl1⟩ := rlower_L (chk := chk) t (by omega)
 obtain ⟨r2, hl2⟩ := rlower_L (chk := chk) v (by omega)
 have hbl := rblank_L (chk := chk) (lowC1 fold t) (by omega)
 have hnm := rnames_L (chk := chk) (lowC1 fold v) (by omega)
 have hpl := parts_len (lowC1 fold v) []
 have hR : rholdF 3 (lowC1 fold t) (lowC1 fold v) = if ((lowC1 fold t) == []) = true then false else (!(lowC1 fold t).any blankB && (partsB (lowC1 fold v) []).any (· == (lowC1 fold t))) := rfl
 rw [hR]
 clear hR
 have hlow : ∃ t' v', lowC1 fold t = t' ∧ lowC1 fold v = v' := ⟨_, _, rfl, rfl⟩
 obtain ⟨t', v', e1, e2⟩ := hlow
 have f1 : fold = true → lowB t = t' ∧ lowB v = v' := fun h => by subst h; exact ⟨e1, e2⟩
 have f0 : fold = false → t = t' ∧ v = v' := fun h => by subst h; exact ⟨e1, e2⟩
 rw [e1] at hbl ht' ⊢
 rw [e2] at hnm hpl hv' ⊢
 generalize hws : partsB v' [] = ws at *
 have hwl : ws.length < 1000000000 := by omega
 clear hpl hws e1 e2
 refine cK 102 4 Tryz.func41 ?_
 have hcase : (fold = true ∧ lowB t = t' ∧ lowB v = v') ∨ (fold = false ∧ t = t' ∧ v = v') := by
  cases fold with
  | true => exact .inl ⟨rfl, f1 rfl⟩
  | false => exact .inr ⟨rfl, f0 rfl⟩
 clear f0 f1
 rcases hcase with ⟨rfl, g1, g2⟩ | ⟨rfl, g1, g2⟩
 all_goals
  repeat' (first|simp only [*, AVB, AVY, ↓reduceIte, Nat.reduceEqDiff, Nat.reduceLT, Nat.reduceBEq, Nat.reduceAdd, Int.reduceBEq, dIntBin]|refine gw_intro (fun h => ?_) (fun h => ?_) <;> try simp only [AVH] at h)
  all_goals try (simp_all; done)
  refine loopH (fun s => ∃ i : Nat, i ≤ ws.length ∧ s.slot 9 = .int .i64 i ∧ s.slot 8 = .list (ws.map .str) ∧ s.slot 5 = .str t' ∧ s.slot 7 = .bool ((ws.take i).any (· == t')) ∧ s.room 7 = [] ∧ s.slot 2 = .ptr 2 1 0 ∧ ∃ c d rs, s.box 2 = some ⟨1, [.int .i64 3, c, d], rs⟩) (fun s => ws.length - slotI s 9) ?_ ?_
  ·refine ⟨0, Nat.zero_le _, ?_, ?_, ?_, ?_, ?_, ?_, .str t, ?_⟩
   rotate_right
   ·first
    | (refine ⟨.bool true, (padR [] 3).take 3, ?_⟩
       simp only [*, AVB, ↓reduceIte]
       done)
    | (refine ⟨.bool false, (padR [] 3).take 3, ?_⟩
       simp only [*, AVB, ↓reduceIte]
       done)
   all_goals simp only [*, AVB, ↓reduceIte, Nat.reduceEqDiff]
   all_goals rfl
  ·rintro s K ⟨i, hi, h9, h8, h5, h7, hr7, h2, c, d, rs, hb⟩ hn hx hr
   by_cases hlt : i < ws.length
   ·obtain ⟨w, hwl'⟩ : ∃ w, ws[i]? = some w := ⟨ws[i], List.getElem?_eq_getElem hlt⟩
    have hlt' : (i : Int) < ws.length := by omega
    have hlm : ((ws.map D.str).length : Int) = ws.length := by simp
    have hgd : (ws.map D.str).getD i .bad = .str w := by simp [List.getD, hwl']
    have hw1 : IntKind.i64.wrap ((i : Int) + 1) = ((i + 1 : Nat) : Int) := by rw [wrap64 _ (by omega) (by omega)]; omega
    have hta := take_any (p := (· == t')) hwl'
    cases hany : (ws.take i).any (· == t') with
    | true =>
     rw [hany] at h7 hta
     clear hany
     rw [Bool.true_or] at hta
     have hta' := Hd.mk hta
     clear hta
     refine Gy ?_
     refine hn _ ⟨i + 1, hlt, ?_, ?_, ?_, ?_, ?_, ?_, c, d, rs, ?_⟩ ?_
     ·exact L
     ·exact L
     ·exact L
     ·rw [show ((ws.take (i + 1)).any (· == t')) = true from hta']; simp only [*, AVB, ↓reduceIte, Nat.reduceEqDiff]
     ·exact L
     ·exact L
     ·exact L
     ·exact Zy
    | false =>
     rw [hany] at h7 hta
     clear hany
     rw [Bool.false_or] at hta
     have hta' := Hd.mk hta
     clear hta
     refine Gy ?_
     refine hn _ ⟨i + 1, hlt, ?_, ?_, ?_, ?_, ?_, ?_, c, d, rs, ?_⟩ ?_
     ·exact L
     ·exact L
     ·exact L
     ·rw [show ((ws.take (i + 1)).any (· == t')) = (w == t') from hta']; simp only [*, AVB, ↓reduceIte, Nat.reduceEqDiff]
     ·exact L
     ·exact L
     ·exact L
     ·exact Zy
   ·have hge : ¬ (i : Int) < ws.length := by omega
    have hlm : ((ws.map D.str).length : Int) = ws.length := by simp
    refine Gy ?_
    refine hx _ _ ?_
    have hil : i = ws.length := by omega
    subst hil
    rw [List.take_length] at h7
    refine Gy ?_
    all_goals try (simp_all; done)
end Go.Av
namespace Go.Av
open Go.Proofs
variable [Rk] {chk : List D → Bool}
set_option maxHeartbeats 2000000 in
theorem rholds7_L (t : List UInt8) (fold : Bool) (v : List UInt8) (ht : t.length < 400000000) (hv : v.length < 400000000) :
  callL Tryz.prog (ext11b chk) 41 [condD 7 t fold, .str v] [] = some (.bool (rholdF 7 (lowC1 fold t) (lowC1 fold v)), [.no], []) := by
 unfold condD
 have hv' : (lowC1 fold v).length < 400000000 := by rw [lowC1_len]; exact hv
 have ht' : (lowC1 fold t).length < 400000000 := by rw [lowC1_len]; exact ht
 obtain ⟨r1, hl1⟩ := rlower_L (chk := chk) t (by omega)
 obtain ⟨r2, hl2⟩ := rlower_L (chk := chk) v (by omega)
 have hat := fun k hk => at_L (chk := chk) (lowC1 fold v) (lowC1 fold t) k (by omega) (by omega) hk
 have hR : rholdF 7 (lowC1 fold t) (lowC1 fold v) = if ((lowC1 fold t) == []) = true then false else (List.range (lowC1 fold v).length).any (atF (lowC1 fold v) · (lowC1 fold t)) := rfl
 rw [hR]
 clear hR
 have hlow : ∃ t' v', lowC1 fold t = t' ∧ lowC1 fold v = v' := ⟨_, _, rfl, rfl⟩
 obtain ⟨t', v', e1, e2⟩ := hlow
 have f1 : fold = true → lowB t = t' ∧ lowB v = v' := fun h => by subst h; exact ⟨e1, e2⟩
 have f0 : fold = false → t = t' ∧ v = v' := fun h => by subst h; exact ⟨e1, e2⟩
 rw [e1] at ht' ⊢
 rw [e2] at hv' ⊢
 rw [e1, e2] at hat
 have hat' := Hd.mk hat
 clear hat e1 e2
 refine cK 102 4 Tryz.func41 ?_
 have hcase : (fold = true ∧ lowB t = t' ∧ lowB v = v') ∨ (fold = false ∧ t = t' ∧ v = v') := by
  cases fold with
  | true => exact .inl ⟨rfl, f1 rfl⟩
  | false => exact .inr ⟨rfl, f0 rfl⟩
 clear f0 f1
 rcases hcase with ⟨rfl, g1, g2⟩ | ⟨rfl, g1, g2⟩
 all_goals
  repeat' (first|simp only [*, AVB, AVY, ↓reduceIte, Nat.reduceEqDiff, Nat.reduceLT, Nat.reduceLeDiff, reduceCtorEq, Nat.reduceBEq, String.reduceBEq, Nat.reduceAdd, Nat.reduceSub, Nat.reduceMul, Int.reduceLE, Int.reduceLT, Int.reduceToNat, Int.reduceBEq, Int.reduceBNe, List.zipWith, dIntBin]|refine gw_intro (fun h => ?_) (fun h => ?_) <;> try simp only [AVH] at h)
  all_goals try (simp_all; done)
  refine loopH (fun s => ∃ i : Nat, i ≤ v'.length ∧ s.slot 10 = .int .i64 i ∧ s.slot 6 = .str v' ∧ s.slot 5 = .str t' ∧ s.slot 7 = .bool ((List.range i).any (atF v' · t')) ∧ s.room 7 = []) (fun s => v'.length - slotI s 10) ?_ ?_
  ·exact ⟨0, Nat.zero_le _, Iy, Iy, Iy, Iy, Iy⟩
  ·rintro s K ⟨i, hi, h9, h8, h5, h7, hr7⟩ hn hx hr
   by_cases hlt : i < v'.length
   ·have hcall := hat' i (by omega)
    have hlt' : (i : Int) < v'.length := by omega
    have hw1 : IntKind.i64.wrap ((i : Int) + 1) = ((i + 1 : Nat) : Int) := by rw [wrap64 _ (by omega) (by omega)]; omega
    have hta := range_any_succ (atF v' · t') i
    cases hany : (List.range i).any (atF v' · t') with
    | true =>
     rw [hany] at h7 hta
     clear hany
     rw [Bool.true_or] at hta
     have hta' := Hd.mk hta
     clear hta
     refine Gy ?_
     refine hn _ ⟨i + 1, hlt, ?_, ?_, ?_, ?_, ?_⟩ ?_
     ·exact L
     ·exact L
     ·exact L
     ·rw [show ((List.range (i + 1)).any (atF v' · t')) = true from hta']; simp only [*, AVB, AVY, ↓reduceIte, Nat.reduceEqDiff, Nat.reduceLT, Nat.reduceLeDiff, reduceCtorEq, Nat.reduceBEq, String.reduceBEq, Nat.reduceAdd, Nat.reduceSub, Nat.reduceMul, Int.reduceLE, Int.reduceLT, Int.reduceToNat, Int.reduceBEq, Int.reduceBNe, List.zipWith, dIntBin]
     ·exact L
     ·exact Zy
    | false =>
     rw [hany] at h7 hta
     clear hany
     rw [Bool.false_or] at hta
     have hta' := Hd.mk hta
     clear hta
     refine Gy ?_
     refine hn _ ⟨i + 1, hlt, ?_, ?_, ?_, ?_, ?_⟩ ?_
     ·exact L
     ·exact L
     ·exact L
     ·rw [show ((List.range (i + 1)).any (atF v' · t')) = atF v' i t' from hta']; simp only [*, AVB, AVY, ↓reduceIte, Nat.reduceEqDiff, Nat.reduceLT, Nat.reduceLeDiff, reduceCtorEq, Nat.reduceBEq, String.reduceBEq, Nat.reduceAdd, Nat.reduceSub, Nat.reduceMul, Int.reduceLE, Int.reduceLT, Int.reduceToNat, Int.reduceBEq, Int.reduceBNe, List.zipWith, dIntBin]
     ·exact L
     ·exact Zy
   ·have hge : ¬ (i : Int) < v'.length := by omega
    refine Gy ?_
    refine hx _ _ ?_
    have hil : i = v'.length := by omega
    subst hil
    refine Gy ?_
    all_goals try (simp_all; done)
end Go.Av
namespace Go.Av
open Go.Proofs
variable [Rk] {chk : List D → Bool}
theorem rholds_L (op : Int) (t : List UInt8) (fold : Bool) (v : List UInt8) (ht : t.length < 400000000) (hv : v.length < 400000000) :
  callL Tryz.prog (ext11b chk) 41 [condD op t fold, .str v] [] = some (.bool (rholdF op (lowC1 fold t) (lowC1 fold v)), [.no], []) := by
 by_cases h3 : op = 3
 ·subst h3; exact rholds3_L t fold v ht hv
 ·by_cases h7 : op = 7
  ·subst h7; exact rholds7_L t fold v ht hv
  ·exact rholdsO_L op t fold v ht hv (by simpa using h3) (by simpa using h7)
end Go.Av
namespace Go.Av
open Go.Proofs
instance (priority := low) rk0 : Rk := ⟨fun _ _ _ => none⟩
theorem preB_at (t v : List UInt8) : preB t v = atF v 0 t := by
 rw [preB_eq, atF]
 simp
theorem sufB_at (t v : List UInt8) : sufF t v = (decide (t.length ≤ v.length) && atF v (v.length - t.length) t) := by
 unfold sufF atF
 by_cases h : t.length ≤ v.length
 ·rw [decide_eq_true h, Nat.sub_add_cancel h, List.take_length]
  simp
 ·rw [decide_eq_false h]
  rfl
theorem lowC_blank (x : UInt8) : blankB (lowC x) = blankB x := by
 rw [blank_nat, blank_nat]
 have h := x.toNat_lt
 unfold lowC
 split
 ·rw [UInt8.toNat_add]
  have : (32 : UInt8).toNat = 32 := rfl
  congr 1
  apply propext
  omega
 ·rfl
theorem lowB_blank (l : List UInt8) : (lowB l).any blankB = l.any blankB := by
 induction l with
 | nil => rfl
 | cons x r ih =>
  simp only [lowB, List.map_cons, List.any_cons] at ih ⊢
  rw [lowC_blank, ih]
theorem lowC1_blank (fold : Bool) (l : List UInt8) : (lowC1 fold l).any blankB = l.any blankB := by
 unfold lowC1
 split
 ·exact lowB_blank l
 ·rfl
theorem lowC1_nil (fold : Bool) (l : List UInt8) : (lowC1 fold l == []) = (l == []) := by
 rw [Bool.eq_iff_iff, beq_iff_eq, beq_iff_eq]
 constructor
 ·intro h
  have := congrArg List.length h
  rw [lowC1_len] at this
  exact List.length_eq_zero_iff.1 this
 ·intro h
  subst h
  cases fold <;> rfl
theorem has_at (t : List UInt8) (ht : t ≠ []) : ∀ (v : List UInt8), hasB t v = (List.range v.length).any (atF v · t)
 | [] => by
  cases t with
  | nil => exact absurd rfl ht
  | cons a r => rfl
 | x :: r => by
  rw [hasB, has_at t ht r, preB_at, List.length_cons, List.range_succ_eq_map, List.any_cons, List.any_map]
  congr 1
  congr 1
  funext k
  simp only [Function.comp, atF, List.length_cons]
  rw [show k.succ + t.length = (k + t.length) + 1 from by omega, List.take_succ_cons, List.drop_succ_cons]
  congr 1
  simp
theorem dash_at (t v : List UInt8) : dashF t v = (t == v || atF v 0 (t ++ [45])) := by
 unfold dashF
 rw [← preB_at]
 induction t generalizing v with
 | nil =>
  cases v with
  | nil => rfl
  | cons x r =>
   simp only [preB, List.length_nil, List.drop_zero, List.nil_append, List.getD_cons_zero, Bool.true_and, Bool.and_true]
   rw [show ((x :: r : List UInt8) == []) = false from rfl, show (([] : List UInt8) == x :: r) = false from rfl]
   simp only [Bool.false_or]
   rw [Bool.eq_iff_iff, beq_iff_eq, beq_iff_eq]
   exact eq_comm
 | cons a t ih =>
  cases v with
  | nil => rfl
  | cons x r =>
   simp only [preB, List.length_cons, List.drop_succ_cons, List.cons_append, List.cons_beq_cons]
   rw [Bool.and_assoc, ih r]
   cases (a == x) <;> simp
theorem contains_any (ls : List (List UInt8)) (t : List UInt8) : ls.contains t = ls.any (· == t) := by
 induction ls with
 | nil => rfl
 | cons x r ih =>
  rw [List.contains_cons, List.any_cons, ih]
  congr 1
  rw [Bool.eq_iff_iff, beq_iff_eq, beq_iff_eq]
  exact eq_comm
theorem holds_eq (op : Int) (t : List UInt8) (fold : Bool) (v : List UInt8) : holdsF op t fold v = rholdF op (lowC1 fold t) (lowC1 fold v) := by
 have hb := lowC1_blank fold t
 have hn := lowC1_nil fold t
 unfold holdsF neverF
 rw [← hb, ← hn]
 generalize lowC1 fold t = t'
 generalize lowC1 fold v = v'
 unfold holdF rholdF
 simp only [beq_iff_eq]
 by_cases h1 : op = 1
 ·subst h1; simp
 by_cases h2 : op = 2
 ·subst h2
  simp only [Int.reduceEq, if_true, if_false, Bool.false_eq_true, reduceIte]
  rw [Bool.eq_iff_iff, beq_iff_eq, beq_iff_eq]
  exact eq_comm
 by_cases h4 : op = 4
 ·subst h4
  simp only [Int.reduceEq, if_true, if_false, Bool.false_eq_true, reduceIte]
  exact dash_at t' v'
 by_cases h3 : op = 3
 ·subst h3
  simp only [Int.reduceEq, if_true, if_false, Bool.false_eq_true, reduceIte]
  rw [contains_any]
  by_cases hz : t' = []
  ·simp [hz]
  ·cases t'.any blankB <;> simp [hz]
 by_cases h5 : op = 5
 ·subst h5
  simp only [Int.reduceEq, if_true, if_false, Bool.false_eq_true, reduceIte]
  rw [preB_at]
  by_cases hz : t' = []
  ·simp [hz]
  ·simp [hz]
 by_cases h6 : op = 6
 ·subst h6
  simp only [Int.reduceEq, if_true, if_false, Bool.false_eq_true, reduceIte]
  rw [sufB_at]
  by_cases hz : t' = []
  ·simp [hz]
  ·simp [hz]
 by_cases h7 : op = 7
 ·subst h7
  simp only [Int.reduceEq, if_true, if_false, Bool.false_eq_true, reduceIte]
  by_cases hz : t' = []
  ·simp [hz]
  ·rw [has_at t' hz]
   simp [hz]
 ·simp [h1, h2, h3, h4, h5, h6, h7]
end Go.Av
namespace Go.Av
open Go.Proofs
variable [Rk] {chk : List D → Bool}
def eyeD (ns : List Nd) (nm : Nam) : D := .agg (treeN ns :: nm.cs)
def Nam.ok (nm : Nam) : Prop := nm.pre.length ≤ 1000 ∧ nm.sps.length ≤ 1000
theorem idxN_findIdx {α : Type} (f : α → Bool) : ∀ (l : List α) (k : Nat), (l.findIdx? f = none ∧ idxN f k l = -1) ∨ ∃ j : Nat, l.findIdx? f = some j ∧ j < l.length ∧ idxN f k l = ((k + j : Nat) : Int)
 | [], k => .inl ⟨rfl, rfl⟩
 | a :: r, k => by
  rw [idxN, List.findIdx?_cons]
  cases h : f a with
  | true => exact .inr ⟨0, rfl, by simp, by simp⟩
  | false =>
   rcases idxN_findIdx f r (k + 1) with ⟨h1, h2⟩ | ⟨j, h1, h2, h3⟩
   ·exact .inl ⟨by simp [h1], by simpa using h2⟩
   ·refine .inr ⟨j + 1, by simp [h1], by simp; omega, ?_⟩
    rw [if_neg (by decide), h3]
    omega
theorem space_cases (nm : Nam) (p : List UInt8) : (idxN (p == ·) 0 nm.pre = -1 ∧ spaceF nm p = ([], false)) ∨ ∃ j : Nat, idxN (p == ·) 0 nm.pre = (j : Int) ∧ j < nm.pre.length ∧ spaceF nm p = (nm.sps.getD j [], true) := by
 have e : (fun x => x == p) = (fun x => p == x) := funext fun x => by rw [Bool.eq_iff_iff, beq_iff_eq, beq_iff_eq]; exact eq_comm
 unfold spaceF
 rw [e]
 rcases idxN_findIdx (p == ·) nm.pre 0 with ⟨h1, h2⟩ | ⟨j, h1, h2, h3⟩
 ·exact .inl ⟨h2, by rw [h1]⟩
 ·exact .inr ⟨j, by rw [h3]; simp, h2, by rw [h1]⟩
theorem str_getD {l : List (List UInt8)} {j : Nat} (h : j < l.length) : (l.map D.str).getD j .bad = .str (l.getD j []) := by
 simp [List.getD, h]
theorem str_over {l : List (List UInt8)} {j : Nat} (h : ¬ j < l.length) : l.getD j [] = [] := by
 simp [List.getD, List.getElem?_eq_none (Nat.le_of_not_lt h)]
set_option maxHeartbeats 1000000 in
theorem space_L (nm : Nam) (p : List UInt8) (hn : nm.ok) : callL Tryz.prog (ext11b chk) 99 [.agg nm.cs, .str p] [] = some (.tuple [.str (spaceF nm p).1, .bool (spaceF nm p).2], [.no, .no], []) := by
 have hi := index_L (chk := chk) nm.pre p (by have := hn.1; omega)
 have lN := lenM nm.sps D.str
 have hc := space_cases nm p
 unfold Nam.cs
 rcases hc with ⟨h1, h2⟩ | ⟨j, h1, hj, h2⟩
 ·rw [h1] at hi
  rw [h2]
  clear h1 h2 hn
  exact callK (m := 25) (res := [4, 5]) (rs := [.tmp 4, .tmp 5]) rfl Tryz.func99 rfl rfl rfl rfl rfl Wy
 ·rw [h1] at hi
  rw [h2]
  clear h1 h2
  have hn1 : ¬ (j : Int) < 0 := by omega
  have hj0 : (0 : Int) ≤ j := by omega
  by_cases hs : j < nm.sps.length
  ·have hg := str_getD hs
   have hs' : ¬ (nm.sps.length : Int) ≤ j := by omega
   have hs2 : (j : Int) < nm.sps.length := by omega
   clear hs hj hn
   exact callK (m := 25) (res := [4, 5]) (rs := [.tmp 4, .tmp 5]) rfl Tryz.func99 rfl rfl rfl rfl rfl Wy
  ·have hg := str_over hs
   have hs' : (nm.sps.length : Int) ≤ j := by omega
   clear hs hj hn
   exact callK (m := 25) (res := [4, 5]) (rs := [.tmp 4, .tmp 5]) rfl Tryz.func99 rfl rfl rfl rfl rfl Wy
end Go.Av
namespace Go.Av
open Go.Proofs
variable [Rk] {chk : List D → Bool}
theorem space_hit {nm : Nam} {p x : List UInt8} {i : Nat} (ha : ∀ (j : Nat) y, j < i → nm.pre[j]? = some y → (y == p) = false) (h : nm.pre[i]? = some x) (hx : (x == p) = true) : spaceF nm p = (nm.sps.getD i [], true) := by
 have : nm.pre.findIdx? (· == p) = some i := by
  rw [List.findIdx?_eq_some_iff_getElem]
  obtain ⟨hl, he⟩ := List.getElem?_eq_some_iff.1 h
  refine ⟨hl, by rw [he]; exact hx, fun j hj => ?_⟩
  have := ha j _ hj (List.getElem?_eq_getElem (by omega))
  simp [this]
 unfold spaceF
 rw [this]
theorem space_no {nm : Nam} {p : List UInt8} (ha : ∀ (j : Nat) y, nm.pre[j]? = some y → (y == p) = false) : spaceF nm p = ([], false) := by
 have : nm.pre.findIdx? (· == p) = none := by
  rw [List.findIdx?_eq_none_iff]
  intro x hx
  obtain ⟨j, hj⟩ := List.mem_iff_getElem?.1 hx
  exact ha j x hj
 unfold spaceF
 rw [this]
set_option maxHeartbeats 1000000 in
theorem rspace_L (nm : Nam) (p : List UInt8) (hn : nm.ok) : callL Tryz.prog (ext11b chk) 71 [.agg nm.cs, .str p] [] = some (.tuple [.str (spaceF nm p).1, .bool (spaceF nm p).2], [.no, .no], []) := by
 have lN := lenM nm.sps D.str
 have lP := lenM nm.pre D.str
 have hp1 := hn.1
 clear hn
 unfold Nam.cs
 refine callK (m := 31) (res := [4, 5]) (rs := [.tmp 4, .tmp 5]) rfl Tryz.func71 rfl rfl rfl rfl rfl ?_
 refine Gy ?_
 refine loopH (fun s => ∃ i : Nat, i ≤ nm.pre.length ∧ s.slot 6 = .int .i64 i ∧ s.slot 1 = .str p ∧ s.slot 2 = .ptr 2 1 0 ∧ (∃ rs, s.box 2 = some ⟨1, [.bool nm.has, .str nm.dft, .list (nm.pre.map .str), .list (nm.sps.map .str)], rs⟩) ∧ (∀ (j : Nat) y, j < i → nm.pre[j]? = some y → (y == p) = false)) (fun s => nm.pre.length - slotI s 6) ?_ ?_
 ·exact ⟨0, Nat.zero_le _, Iy, Iy, Iy, ⟨(padR [] 4).take 4, Iy⟩, fun j y hj => absurd hj (Nat.not_lt_zero j)⟩
 ·rintro s K ⟨i, hi, h6, h1, h2, ⟨rs, hb⟩, hany⟩ hn hx hr
  have hany' := Hd.mk hany
  clear hany
  by_cases hlt : i < nm.pre.length
  ·obtain ⟨x, hxl⟩ : ∃ x, nm.pre[i]? = some x := ⟨nm.pre[i], List.getElem?_eq_getElem hlt⟩
   have hlt' : (i : Int) < nm.pre.length := by omega
   have hgd : (nm.pre.map D.str).getD i .bad = .str x := by simp [List.getD, hxl]
   have hw1 := wrapS i (by omega)
   cases htx : (x == p) with
   | true =>
    have hres := space_hit hany' hxl htx
    by_cases hs : i < nm.sps.length
    ·have hg := str_getD hs
     have hs2 : (i : Int) < nm.sps.length := by omega
     clear hs
     rw [hres] at hr
     refine Gy ?_
     exact hr _ Wy
    ·have hg := str_over hs
     have hs2 : ¬ (i : Int) < nm.sps.length := by omega
     clear hs
     rw [hres] at hr
     refine Gy ?_
     exact hr _ Wy
   | false =>
    refine Gy ?_
    refine hn _ ⟨i + 1, hlt, ?_, ?_, ?_, ⟨rs, ?_⟩, ?_⟩ ?_
    ·exact L
    ·exact L
    ·exact L
    ·exact L
    ·intro j y hj hy
     rcases Nat.lt_succ_iff_lt_or_eq.1 hj with h | rfl
     ·exact hany' j y h hy
     ·rw [hxl] at hy
      injection hy with hy
      rw [← hy]
      exact htx
    ·exact Zy
  ·have hge : ¬ (i : Int) < nm.pre.length := by omega
   have hres := space_no (nm := nm) (p := p) fun j y hy => hany' j y (by have := (List.getElem?_eq_some_iff.1 hy).1; omega) hy
   rw [hres] at hx
   refine Gy ?_
   exact hx 0 _ Wy
theorem tree_fix (ns : List Nd) : ∃ X, treeN ns = .fix X 0 := ⟨_, rfl⟩
theorem beq_sym (a b : List UInt8) : (a == b) = (b == a) := by rw [Bool.eq_iff_iff, beq_iff_eq, beq_iff_eq]; exact eq_comm
set_option maxHeartbeats 2000000 in
theorem inPlace_L (ns : List Nd) (nm : Nam) (s : Sf) (sp : List UInt8) (at_ : Bool) (hn : nm.ok) : callL Tryz.prog (ext11b chk) 63 [eyeD ns nm, s.d, .str sp, .bool at_] [] = some (.bool (inPlF nm s.ns s.pre sp at_), [.no], []) := by
 have hs : callL Tryz.prog (ext11b chk) 99 [.agg [.bool nm.has, .str nm.dft, .list (nm.pre.map .str), .list (nm.sps.map .str)], .str s.pre] [] = _ := space_L nm s.pre hn
 unfold eyeD Nam.cs Sf.d inPlF
 obtain ⟨T, hT⟩ := tree_fix ns
 rw [hT]
 clear hT
 generalize hP : spaceF nm s.pre = z at hs ⊢
 obtain ⟨z1, z2⟩ := z
 clear hP hn
 by_cases k0 : s.ns = 0
 ·rw [if_pos k0]
  obtain ⟨j1, j2, j3⟩ := eqI k0
  clear k0
  cases at_ with
  | true =>
   exact cWy 51 8 Tryz.func63
  | false =>
   cases hh : nm.has with
   | true =>
    rw [hh] at hs
    exact cWy 51 8 Tryz.func63
   | false =>
    rw [hh] at hs
    exact cWy 51 8 Tryz.func63
 ·rw [if_neg k0]
  obtain ⟨j1, j2, j3⟩ := neI k0
  clear k0
  by_cases k1 : s.ns = 1
  ·rw [if_pos k1]
   obtain ⟨i1, i2, i3⟩ := eqI k1
   clear k1
   exact cWy 51 8 Tryz.func63
  ·rw [if_neg k1]
   obtain ⟨i1, i2, i3⟩ := neI k1
   clear k1
   by_cases k2 : s.ns = 2
   ·rw [if_pos k2]
    obtain ⟨l1, l2, l3⟩ := eqI k2
    clear k2
    exact cWy 51 8 Tryz.func63
   ·rw [if_neg k2]
    obtain ⟨l1, l2, l3⟩ := neI k2
    clear k2
    by_cases k3 : s.ns = 3
    ·rw [if_pos k3]
     obtain ⟨m1, m2, m3⟩ := eqI k3
     clear k3
     cases z2 with
     | true =>
      exact cWy 51 8 Tryz.func63
     | false =>
      exact cWy 51 8 Tryz.func63
    ·rw [if_neg k3]
     obtain ⟨m1, m2, m3⟩ := neI k3
     clear k3
     exact cWy 51 8 Tryz.func63
end Go.Av
namespace Go.Av
open Go.Proofs
variable [Rk] {chk : List D → Bool}
theorem val_small {ns : List Nd} (hS : SmallD ns) (n : Int) (sp nm : List UInt8) : (valI ns n sp nm).1.length ≤ 1000000 := by
 unfold valI
 split
 ·cases h : (atsAt ns n.toNat).find? (sameN sp nm) with
  | none => simp [foundF]
  | some a =>
   have hm := List.mem_of_find?_eq_some h
   unfold atsAt at hm
   cases e : ns[n.toNat]? with
   | none => rw [e] at hm; cases hm
   | some x =>
    rw [e] at hm
    have := ((hS.2 x (List.mem_of_getElem? e)).2.2.2.2.2 a hm).2.2
    simp only [foundF]
    omega
 ·simp
set_option maxHeartbeats 1000000 in
theorem plain64_L (ns : List Nd) (nm : Nam) (n : Int) (name : List UInt8) (op : Int) (tx : List UInt8) (hS : SmallD ns) (ht : tx.length ≤ 1000) :
  callL Tryz.prog (ext11b chk) 64 [eyeD ns nm, .int .i64 n, .str name, .agg [.int .i64 op, .str tx, .bool false]] [] = some (.bool (plainV ns n name op tx), [.no], []) := by
 have hv := val38_L (chk := chk) ns n [] name hS
 have hl := val_small hS n [] name
 have hh : callL Tryz.prog (ext11b chk) 101 [.agg [.int .i64 op, .str tx, .bool false], .str (valI ns n [] name).1] [] = _ := holds_L (chk := chk) op tx false (valI ns n [] name).1 (by omega) (by omega)
 unfold eyeD Nam.cs plainV
 obtain ⟨T, hT⟩ := tree_fix ns
 rw [hT] at hv ⊢
 clear hT hl hS
 generalize valI ns n [] name = z at hv hh ⊢
 obtain ⟨z1, z2⟩ := z
 generalize holdsF op tx false (z1, z2).1 = q at hh ⊢
 cases z2 with
 | true =>
  exact cWy 25 8 Tryz.func64
 | false =>
  exact cWy 25 8 Tryz.func64
set_option maxHeartbeats 1000000 in
theorem rattr_L (ns : List Nd) (n : Int) (name : List UInt8) (op : Int) (tx : List UInt8) (hS : SmallD ns) (ht : tx.length ≤ 1000) :
  callL Tryz.prog (ext11b chk) 40 [.list (ns.map Nd.d), .int .i64 n, .str name, .agg [.int .i64 op, .str tx, .bool false]] [] = some (.bool (plainV ns n name op tx), [.no], []) := by
 have hv := rval39_L (chk := chk) ns n [] name hS
 have hl := val_small hS n [] name
 have hh : callL Tryz.prog (ext11b chk) 41 [.agg [.int .i64 op, .str tx, .bool false], .str (valI ns n [] name).1] [] = _ := rholds_L (chk := chk) op tx false (valI ns n [] name).1 (by omega) (by omega)
 rw [← holds_eq] at hh
 unfold plainV
 clear hl hS
 generalize valI ns n [] name = z at hv hh ⊢
 obtain ⟨z1, z2⟩ := z
 generalize holdsF op tx false (z1, z2).1 = q at hh ⊢
 generalize ns.map Nd.d = L at *
 cases z2 with
 | true =>
  exact cWy 24 8 Tryz.func40
 | false =>
  exact cWy 24 8 Tryz.func40
set_option maxHeartbeats 2000000 in
theorem rinPlace_L (nm : Nam) (s : Sf) (sp : List UInt8) (at_ : Bool) (hn : nm.ok) : callL Tryz.prog (ext11b chk) 39 [s.d, .str sp, .agg nm.cs, .bool at_] [] = some (.bool (inPlF nm s.ns s.pre sp at_), [.no], []) := by
 have hs : callL Tryz.prog (ext11b chk) 71 [.agg [.bool nm.has, .str nm.dft, .list (nm.pre.map .str), .list (nm.sps.map .str)], .str s.pre] [] = _ := rspace_L nm s.pre hn
 have bs1 := beq_sym nm.dft sp
 have bs2 := beq_sym (spaceF nm s.pre).1 sp
 unfold Nam.cs Sf.d inPlF
 generalize hP : spaceF nm s.pre = z at hs bs2 ⊢
 obtain ⟨z1, z2⟩ := z
 clear hP hn
 by_cases k0 : s.ns = 0
 ·rw [if_pos k0]
  rw [k0]
  clear k0
  cases at_ with
  | true =>
   exact cWy 57 8 Tryz.func39
  | false =>
   cases hh : nm.has with
   | true =>
    rw [hh] at hs
    exact cWy 57 8 Tryz.func39
   | false =>
    rw [hh] at hs
    exact cWy 57 8 Tryz.func39
 ·rw [if_neg k0]
  obtain ⟨j1, j2, j3⟩ := neI k0
  clear k0
  by_cases k1 : s.ns = 1
  ·rw [if_pos k1]
   rw [k1]
   clear k1 j1 j2 j3
   exact cWy 57 8 Tryz.func39
  ·rw [if_neg k1]
   obtain ⟨i1, i2, i3⟩ := neI k1
   clear k1
   by_cases k2 : s.ns = 2
   ·rw [if_pos k2]
    rw [k2]
    clear k2 j1 j2 j3 i1 i2 i3
    exact cWy 57 8 Tryz.func39
   ·rw [if_neg k2]
    obtain ⟨l1, l2, l3⟩ := neI k2
    clear k2
    by_cases k3 : s.ns = 3
    ·rw [if_pos k3]
     obtain ⟨m1, m2, m3⟩ := eqI k3
     clear k3
     cases z2 with
     | true =>
      exact cWy 57 8 Tryz.func39
     | false =>
      exact cWy 57 8 Tryz.func39
    ·rw [if_neg k3]
     obtain ⟨m1, m2, m3⟩ := neI k3
     clear k3
     exact cWy 57 8 Tryz.func39
end Go.Av
namespace Go.Av
open Go.Proofs
variable [Rk] {chk : List D → Bool}
theorem tmod0 (x a : Int) : (x.tmod a == 0) = (x % a == 0) := by
 rw [Bool.eq_iff_iff, beq_iff_eq, beq_iff_eq, ← Int.dvd_iff_tmod_eq_zero, ← Int.dvd_iff_emod_eq_zero]
theorem tmodN (x a : Int) : ((-x).tmod (-a) == 0) = (x % a == 0) := by
 rw [Bool.eq_iff_iff, beq_iff_eq, beq_iff_eq, ← Int.dvd_iff_tmod_eq_zero, ← Int.dvd_iff_emod_eq_zero, Int.neg_dvd, Int.dvd_neg]
theorem has_ref (a b n : Int) : hasAB a b n = (if n < 1 then false else if a = 0 then n == b else (if (n - b).tmod a == 0 then decide (0 ≤ (n - b).tdiv a) else false)) := by
 unfold hasAB
 by_cases h1 : n < 1
 ·rw [if_pos h1, if_pos h1]
 rw [if_neg h1, if_neg h1]
 by_cases h2 : a = 0
 ·rw [if_pos (.inl h2), if_pos h2]
 rw [if_neg h2]
 by_cases h3 : n = b
 ·subst h3
  rw [if_pos (.inr rfl), Int.sub_self, Int.zero_tmod, Int.zero_tdiv]
  simp
 rw [if_neg (by simp [h2, h3])]
 rw [tmod0]
 cases hm : ((n - b) % a == 0) with
 | false => simp
 | true =>
  rw [beq_iff_eq, ← Int.dvd_iff_emod_eq_zero] at hm
  obtain ⟨q, hq⟩ := hm
  rw [if_pos rfl, hq, Int.mul_tdiv_cancel_left _ h2]
  have hq0 : q ≠ 0 := fun e => by rw [e] at hq; omega
  by_cases ha : 0 < a
  ·rw [decide_eq_true ha]
   by_cases hq1 : 0 < q
   ·have : 0 < a * q := Int.mul_pos ha hq1
    rw [decide_eq_true (show b < n by omega), decide_eq_true (show 0 ≤ q by omega)]
    rfl
   ·have : a * q < 0 := Int.mul_neg_of_pos_of_neg ha (by omega)
    rw [decide_eq_false (show ¬ b < n by omega), decide_eq_false (show ¬ 0 ≤ q by omega)]
    rfl
  ·rw [decide_eq_false ha]
   by_cases hq1 : 0 < q
   ·have : a * q < 0 := Int.mul_neg_of_neg_of_pos (by omega) hq1
    rw [decide_eq_false (show ¬ b < n by omega), decide_eq_true (show 0 ≤ q by omega)]
    rfl
   ·have : 0 < a * q := Int.mul_pos_of_neg_of_neg (by omega) (by omega)
    rw [decide_eq_true (show b < n by omega), decide_eq_false (show ¬ 0 ≤ q by omega)]
    rfl
set_option maxHeartbeats 1000000 in
theorem ranbHas_L (a b n : Int) (ha : a ≤ 1099511627776 ∧ -1099511627776 ≤ a) (hb : b ≤ 1099511627776 ∧ -1099511627776 ≤ b) (hn : n ≤ 1000000 ∧ 0 ≤ n) : callL Tryz.prog (ext11b chk) 78 [.int .i64 a, .int .i64 b, .int .i64 n] [] = some (.bool (hasAB a b n), [.no], []) := by
 rw [has_ref]
 by_cases h1 : n < 1
 ·rw [if_pos h1]
  exact cWy 28 6 Tryz.func78
 rw [if_neg h1]
 by_cases h2 : a = 0
 ·rw [if_pos h2]
  subst h2
  exact cWy 28 6 Tryz.func78
 rw [if_neg h2]
 obtain ⟨j1, j2, j3⟩ := neI h2
 have hw : IntKind.i64.wrap (n - b) = n - b := wrap64 _ (by omega) (by omega)
 have hq : IntKind.i64.wrap ((n - b).tdiv a) = (n - b).tdiv a := by
  have h3 : ((n - b).tdiv a).natAbs ≤ (n - b).natAbs := by rw [Int.natAbs_tdiv]; exact Nat.div_le_self _ _
  exact wrap64 _ (by omega) (by omega)
 clear ha hb hn
 cases hm : ((n - b).tmod a == 0) with
 | false =>
  exact cWy 28 6 Tryz.func78
 | true =>
  exact cWy 28 6 Tryz.func78
set_option maxHeartbeats 1000000 in
theorem dir_L (a : Int) : callL Tryz.prog (ext11b chk) 139 [.int .i64 a] [] = some (.int .u64 (if a < 0 then 18446744073709551615 else 1), [.no], []) := by
 by_cases h : a < 0
 ·rw [if_pos h]
  exact cWy 5 2 Tryz.func139
 ·rw [if_neg h]
  exact cWy 5 2 Tryz.func139
theorem magW (a : Int) (ha : a ≤ 1099511627776 ∧ -1099511627776 ≤ a) : IntKind.u64.wrap (IntKind.u64.wrap a * (if a < 0 then 18446744073709551615 else 1)) = if a < 0 then -a else a := by
 split
 ·rw [IntKind.wrap_u64, IntKind.wrap_u64]; omega
 ·rw [IntKind.wrap_u64, IntKind.wrap_u64]; omega
set_option maxHeartbeats 1000000 in
theorem mag_L (a : Int) (ha : a ≤ 1099511627776 ∧ -1099511627776 ≤ a) : callL Tryz.prog (ext11b chk) 140 [.int .i64 a] [] = some (.int .u64 (if a < 0 then -a else a), [.no], []) := by
 have h1 := dir_L (chk := chk) a
 have h2 := magW a ha
 generalize (if a < 0 then (-a) else a) = q at h2 ⊢
 generalize (if a < 0 then (18446744073709551615 : Int) else 1) = p at h1 h2
 clear ha
 exact cWy 8 2 Tryz.func140
set_option maxHeartbeats 1000000 in
theorem anbHas_L (a b n : Int) (ha : a ≤ 1099511627776 ∧ -1099511627776 ≤ a) (hb : b ≤ 1099511627776 ∧ -1099511627776 ≤ b) (hn : n ≤ 1000000 ∧ 0 ≤ n) : callL Tryz.prog (ext11b chk) 106 [.int .i64 a, .int .i64 b, .int .i64 n] [] = some (.bool (hasAB a b n), [.no], []) := by
 have h1 := dir_L (chk := chk) a
 have h2 := mag_L (chk := chk) a ha
 unfold hasAB
 by_cases c1 : n < 1
 ·rw [if_pos c1]
  clear h1 h2
  exact cWy 37 6 Tryz.func106
 rw [if_neg c1]
 by_cases c2 : a = 0
 ·rw [if_pos (.inl c2)]
  subst c2
  clear h1 h2
  exact cWy 37 6 Tryz.func106
 obtain ⟨j1, j2, j3⟩ := neI c2
 by_cases c3 : n = b
 ·rw [if_pos (.inr c3)]
  subst c3
  clear h1 h2
  exact cWy 37 6 Tryz.func106
 rw [if_neg (by simp [c2, c3])]
 obtain ⟨i1, i2, i3⟩ := neI c3
 by_cases c4 : b < n
 ·by_cases c5 : 0 < a
  ·rw [if_neg (by rw [decide_eq_true c4, decide_eq_true c5]; decide)]
   have c6 : ¬ a < 0 := by omega
   rw [if_neg c6] at h1 h2
   have e1 : IntKind.u64.wrap (IntKind.u64.wrap n - IntKind.u64.wrap b) = n - b := by rw [IntKind.wrap_u64, IntKind.wrap_u64, IntKind.wrap_u64]; omega
   have e2 : IntKind.u64.wrap ((n - b) * 1) = n - b := by rw [IntKind.wrap_u64]; omega
   have e3 := tmod0 (n - b) a
   clear ha hb hn c6
   exact cWy 37 6 Tryz.func106
  ·rw [if_pos (by rw [decide_eq_true c4, decide_eq_false c5]; decide)]
   clear h1 h2 ha hb hn
   exact cWy 37 6 Tryz.func106
 ·by_cases c5 : 0 < a
  ·rw [if_pos (by rw [decide_eq_false c4, decide_eq_true c5]; decide)]
   clear h1 h2 ha hb hn
   exact cWy 37 6 Tryz.func106
  ·rw [if_neg (by rw [decide_eq_false c4, decide_eq_false c5]; decide)]
   have c6 : a < 0 := by omega
   rw [if_pos c6] at h1 h2
   have e1 : IntKind.u64.wrap (IntKind.u64.wrap n - IntKind.u64.wrap b) = n - b + 18446744073709551616 := by rw [IntKind.wrap_u64, IntKind.wrap_u64, IntKind.wrap_u64]; omega
   have e2 : IntKind.u64.wrap ((n - b + 18446744073709551616) * 18446744073709551615) = -(n - b) := by rw [IntKind.wrap_u64]; omega
   have e3 := tmodN (n - b) a
   have e4 : ¬ -a = 0 := by omega
   clear ha hb hn
   exact cWy 37 6 Tryz.func106
end Go.Av
namespace Go.Av
open Go.Proofs
variable [Rk] {chk : List D → Bool}
set_option maxHeartbeats 4000000 in
theorem idxAt_L (l : List At) (clo : FuncId) (e1 e2 : D) (f : At → Bool) (hl : l.length ≤ 1000000) (hc : ∀ x ∈ l, callL Tryz.prog (ext11b chk) clo [.agg [.str x.sp, .str x.nm, .str x.vl], .fix e1 0, .fix e2 0] [] = some (.bool (f x), [.no], [])) :
  callL Tryz.prog (ext11b chk) 138 [.list (l.map At.d), .func (.func clo) [] [.fix e1 0, .fix e2 0]] [] = some (.int .i64 (idxN f 0 l), [.no], []) := by
 have lN := lenM l At.d
 refine cK 19 4 Tryz.func138 ?_
 have HL := Hd.mk hl
 have HC := Hd.mk hc
 clear hl hc
 obtain ⟨R, hR⟩ : ∃ R, Hd (R = idxN f 0 l) := ⟨_, rfl⟩
 rw [← (show R = idxN f 0 l from hR)]
 refine Gy ?_
 refine loopH (fun st => ∃ i : Nat, i ≤ l.length ∧ st.slot 8 = .int .i64 i ∧ st.slot 7 = .int .i64 l.length ∧ st.slot 0 = .list (l.map At.d) ∧ st.slot 1 = .func (.func clo) [] [.fix e1 0, .fix e2 0] ∧ st.slot 4 = .int .i64 0 ∧ st.room 4 = [] ∧ Hd (R = idxN f i (l.drop i))) (fun st => l.length - slotI st 8) ?_ ?_
 ·exact ⟨0, Nat.zero_le _, Iy, Iy, Iy, Iy, Iy, Iy, hR⟩
 ·rintro st K ⟨i, hi, g0, g1, g2, g3, g4, g5, hO⟩ hn hx hr
  have hl : l.length ≤ 1000000 := HL
  have hO' : R = idxN f i (l.drop i) := hO
  by_cases h : i < l.length
  ·have g9 : (i : Int) < l.length := by omega
   have hw := wrapS i (by omega)
   obtain ⟨x, hx1⟩ := some_at h
   have hxm := List.mem_of_getElem? hx1
   rw [idxN_at _ hx1] at hO'
   have hc := (show ∀ x ∈ l, callL Tryz.prog (ext11b chk) clo [.agg [.str x.sp, .str x.nm, .str x.vl], .fix e1 0, .fix e2 0] [] = some (.bool (f x), [.no], []) from HC) x hxm
   have ha : (l.map At.d).getD i .bad = .agg [.str x.sp, .str x.nm, .str x.vl] := getD_map (f := At.d) hx1
   cases he : f x with
   | true =>
    rw [he] at hO' hc
    rw [if_pos rfl] at hO'
    subst hO'
    clear he hxm hx1
    obtain ⟨a1, a2, a3⟩ := x
    clear hO hn hx hl hR HC
    refine Gy ?_
    exact hr _ Wy
   | false =>
    rw [he] at hO' hc
    rw [if_neg (by decide)] at hO'
    have HO := Hd.mk hO'
    clear he hxm hx1
    obtain ⟨a1, a2, a3⟩ := x
    clear hO hO' hx hr hl
    refine Gy ?_
    exact hn _ ⟨i + 1, h, L, L, L, L, L, L, HO⟩ Zy
  ·have g9 : ¬ (i : Int) < l.length := by omega
   rw [idxN_end _ (by omega)] at hO'
   subst hO'
   clear hO hn hr hl hR HC
   refine Gy ?_
   exact hx _ _ Wy
theorem conAt_L (l : List At) (clo : FuncId) (e1 e2 : D) (f : At → Bool) (hl : l.length ≤ 1000000) (hc : ∀ x ∈ l, callL Tryz.prog (ext11b chk) clo [.agg [.str x.sp, .str x.nm, .str x.vl], .fix e1 0, .fix e2 0] [] = some (.bool (f x), [.no], [])) :
  callL Tryz.prog (ext11b chk) 102 [.list (l.map At.d), .func (.func clo) [] [.fix e1 0, .fix e2 0]] [] = some (.bool (l.any f), [.no], []) := by
 have hs := idxAt_L (chk := chk) l clo e1 e2 f hl hc
 have hb := idxN_ge f l 0
 clear hc hl
 generalize idxN f 0 l = z at *
 generalize l.any f = y at *
 generalize l.map At.d = L at *
 exact cWy 9 4 Tryz.func102
set_option maxHeartbeats 4000000 in
theorem idxCx_L (l : List D) (clo : FuncId) (e1 e2 : D) (f : D → Bool) (hl : l.length ≤ 1000000) (hF : ∀ x ∈ l, x = cxD (cxL x)) (hc : ∀ x ∈ l, callL Tryz.prog (ext11b chk) clo [.agg [.list (cxL x)], .fix e1 0, .fix e2 0] [] = some (.bool (f x), [.no], [])) :
  callL Tryz.prog (ext11b chk) 60 [.list l, .func (.func clo) [] [.fix e1 0, .fix e2 0]] [] = some (.int .i64 (idxN f 0 l), [.no], []) := by
 have lN : ((l.length : Nat) : Int) = l.length := rfl
 refine cK 19 4 Tryz.func60 ?_
 have HL := Hd.mk hl
 have HC := Hd.mk hc
 clear hl hc
 obtain ⟨R, hR⟩ : ∃ R, Hd (R = idxN f 0 l) := ⟨_, rfl⟩
 rw [← (show R = idxN f 0 l from hR)]
 have HF := Hd.mk hF
 clear hF
 refine Gy ?_
 refine loopH (fun st => ∃ i : Nat, i ≤ l.length ∧ st.slot 8 = .int .i64 i ∧ st.slot 7 = .int .i64 l.length ∧ st.slot 0 = .list l ∧ st.slot 1 = .func (.func clo) [] [.fix e1 0, .fix e2 0] ∧ st.slot 4 = .int .i64 0 ∧ st.room 4 = [] ∧ Hd (R = idxN f i (l.drop i))) (fun st => l.length - slotI st 8) ?_ ?_
 ·exact ⟨0, Nat.zero_le _, Iy, Iy, Iy, Iy, Iy, Iy, hR⟩
 ·rintro st K ⟨i, hi, g0, g1, g2, g3, g4, g5, hO⟩ hn hx hr
  have hl : l.length ≤ 1000000 := HL
  have hO' : R = idxN f i (l.drop i) := hO
  by_cases h : i < l.length
  ·have g9 : (i : Int) < l.length := by omega
   have hw := wrapS i (by omega)
   obtain ⟨x, hx1⟩ := some_at h
   have hxm := List.mem_of_getElem? hx1
   rw [idxN_at _ hx1] at hO'
   have hc := (show ∀ x ∈ l, callL Tryz.prog (ext11b chk) clo [.agg [.list (cxL x)], .fix e1 0, .fix e2 0] [] = some (.bool (f x), [.no], []) from HC) x hxm
   have hF : ∀ x ∈ l, x = cxD (cxL x) := HF
   have ha : l.getD i .bad = .agg [.list (cxL x)] := by
    have h1 : l.getD i .bad = x := by simp [List.getD, hx1]
    rw [h1]
    exact hF x hxm
   cases he : f x with
   | true =>
    rw [he] at hO' hc
    rw [if_pos rfl] at hO'
    subst hO'
    clear he hxm hx1
    generalize cxL x = X at *
    clear hO hn hx hl hR HC
    refine Gy ?_
    exact hr _ Wy
   | false =>
    rw [he] at hO' hc
    rw [if_neg (by decide)] at hO'
    have HO := Hd.mk hO'
    clear he hxm hx1
    generalize cxL x = X at *
    clear hO hO' hx hr hl
    refine Gy ?_
    exact hn _ ⟨i + 1, h, L, L, L, L, L, L, HO⟩ Zy
  ·have g9 : ¬ (i : Int) < l.length := by omega
   rw [idxN_end _ (by omega)] at hO'
   subst hO'
   clear hO hn hr hl hR HC
   refine Gy ?_
   exact hx _ _ Wy
theorem conCx_L (l : List D) (clo : FuncId) (e1 e2 : D) (f : D → Bool) (hl : l.length ≤ 1000000) (hF : ∀ x ∈ l, x = cxD (cxL x)) (hc : ∀ x ∈ l, callL Tryz.prog (ext11b chk) clo [.agg [.list (cxL x)], .fix e1 0, .fix e2 0] [] = some (.bool (f x), [.no], [])) :
  callL Tryz.prog (ext11b chk) 33 [.list l, .func (.func clo) [] [.fix e1 0, .fix e2 0]] [] = some (.bool (l.any f), [.no], []) := by
 have hs := idxCx_L (chk := chk) l clo e1 e2 f hl hF hc
 have hb := idxN_ge f l 0
 clear hc hl
 clear hF
 generalize idxN f 0 l = z at *
 generalize l.any f = y at *
 exact cWy 9 4 Tryz.func33
set_option maxHeartbeats 4000000 in
theorem idxSm_L (l : List D) (clo : FuncId) (e1 e2 : D) (f : D → Bool) (hl : l.length ≤ 1000000) (hF : ∀ x ∈ l, x = (sf x).d) (hc : ∀ x ∈ l, callL Tryz.prog (ext11b chk) clo [.agg [.int .i64 (sf x).kd, .int .i64 (sf x).ns, .str (sf x).pre, .str (sf x).nm, .int .i64 (sf x).op, .str (sf x).tx, .bool (sf x).fold, .int .i64 (sf x).mark, .int .i64 (sf x).a, .int .i64 (sf x).b, .list (sf x).of_], .fix e1 0, .fix e2 0] [] = some (.bool (f x), [.no], [])) :
  callL Tryz.prog (ext11b chk) 141 [.list l, .func (.func clo) [] [.fix e1 0, .fix e2 0]] [] = some (.int .i64 (idxN f 0 l), [.no], []) := by
 have lN : ((l.length : Nat) : Int) = l.length := rfl
 refine cK 19 4 Tryz.func141 ?_
 have HL := Hd.mk hl
 have HC := Hd.mk hc
 clear hl hc
 obtain ⟨R, hR⟩ : ∃ R, Hd (R = idxN f 0 l) := ⟨_, rfl⟩
 rw [← (show R = idxN f 0 l from hR)]
 have HF := Hd.mk hF
 clear hF
 refine Gy ?_
 refine loopH (fun st => ∃ i : Nat, i ≤ l.length ∧ st.slot 8 = .int .i64 i ∧ st.slot 7 = .int .i64 l.length ∧ st.slot 0 = .list l ∧ st.slot 1 = .func (.func clo) [] [.fix e1 0, .fix e2 0] ∧ st.slot 4 = .int .i64 0 ∧ st.room 4 = [] ∧ Hd (R = idxN f i (l.drop i))) (fun st => l.length - slotI st 8) ?_ ?_
 ·exact ⟨0, Nat.zero_le _, Iy, Iy, Iy, Iy, Iy, Iy, hR⟩
 ·rintro st K ⟨i, hi, g0, g1, g2, g3, g4, g5, hO⟩ hn hx hr
  have hl : l.length ≤ 1000000 := HL
  have hO' : R = idxN f i (l.drop i) := hO
  by_cases h : i < l.length
  ·have g9 : (i : Int) < l.length := by omega
   have hw := wrapS i (by omega)
   obtain ⟨x, hx1⟩ := some_at h
   have hxm := List.mem_of_getElem? hx1
   rw [idxN_at _ hx1] at hO'
   have hc := (show ∀ x ∈ l, callL Tryz.prog (ext11b chk) clo [.agg [.int .i64 (sf x).kd, .int .i64 (sf x).ns, .str (sf x).pre, .str (sf x).nm, .int .i64 (sf x).op, .str (sf x).tx, .bool (sf x).fold, .int .i64 (sf x).mark, .int .i64 (sf x).a, .int .i64 (sf x).b, .list (sf x).of_], .fix e1 0, .fix e2 0] [] = some (.bool (f x), [.no], []) from HC) x hxm
   have hF : ∀ x ∈ l, x = (sf x).d := HF
   have ha : l.getD i .bad = .agg [.int .i64 (sf x).kd, .int .i64 (sf x).ns, .str (sf x).pre, .str (sf x).nm, .int .i64 (sf x).op, .str (sf x).tx, .bool (sf x).fold, .int .i64 (sf x).mark, .int .i64 (sf x).a, .int .i64 (sf x).b, .list (sf x).of_] := by
    have h1 : l.getD i .bad = x := by simp [List.getD, hx1]
    rw [h1]
    exact hF x hxm
   cases he : f x with
   | true =>
    rw [he] at hO' hc
    rw [if_pos rfl] at hO'
    subst hO'
    clear he hxm hx1
    generalize sf x = X at *
    clear hO hn hx hl hR HC
    refine Gy ?_
    exact hr _ Wy
   | false =>
    rw [he] at hO' hc
    rw [if_neg (by decide)] at hO'
    have HO := Hd.mk hO'
    clear he hxm hx1
    generalize sf x = X at *
    clear hO hO' hx hr hl
    refine Gy ?_
    exact hn _ ⟨i + 1, h, L, L, L, L, L, L, HO⟩ Zy
  ·have g9 : ¬ (i : Int) < l.length := by omega
   rw [idxN_end _ (by omega)] at hO'
   subst hO'
   clear hO hn hr hl hR HC
   refine Gy ?_
   exact hx _ _ Wy
theorem conSm_L (l : List D) (clo : FuncId) (e1 e2 : D) (f : D → Bool) (hl : l.length ≤ 1000000) (hF : ∀ x ∈ l, x = (sf x).d) (hc : ∀ x ∈ l, callL Tryz.prog (ext11b chk) clo [.agg [.int .i64 (sf x).kd, .int .i64 (sf x).ns, .str (sf x).pre, .str (sf x).nm, .int .i64 (sf x).op, .str (sf x).tx, .bool (sf x).fold, .int .i64 (sf x).mark, .int .i64 (sf x).a, .int .i64 (sf x).b, .list (sf x).of_], .fix e1 0, .fix e2 0] [] = some (.bool (f x), [.no], [])) :
  callL Tryz.prog (ext11b chk) 110 [.list l, .func (.func clo) [] [.fix e1 0, .fix e2 0]] [] = some (.bool (l.any f), [.no], []) := by
 have hs := idxSm_L (chk := chk) l clo e1 e2 f hl hF hc
 have hb := idxN_ge f l 0
 clear hc hl
 clear hF
 generalize idxN f 0 l = z at *
 generalize l.any f = y at *
 exact cWy 9 4 Tryz.func110
set_option maxHeartbeats 4000000 in
theorem idxIn_L (l : List Int) (clo : FuncId) (e1 e2 : D) (f : Int → Bool) (hl : l.length ≤ 1000000) (hc : ∀ x ∈ l, callL Tryz.prog (ext11b chk) clo [.int .i64 x, .fix e1 0, .fix e2 0] [] = some (.bool (f x), [.no], [])) :
  callL Tryz.prog (ext11b chk) 113 [.list (l.map (D.int .i64)), .func (.func clo) [] [.fix e1 0, .fix e2 0]] [] = some (.int .i64 (idxN f 0 l), [.no], []) := by
 have lN := lenM l (D.int .i64)
 refine cK 19 4 Tryz.func113 ?_
 have HL := Hd.mk hl
 have HC := Hd.mk hc
 clear hl hc
 obtain ⟨R, hR⟩ : ∃ R, Hd (R = idxN f 0 l) := ⟨_, rfl⟩
 rw [← (show R = idxN f 0 l from hR)]
 refine Gy ?_
 refine loopH (fun st => ∃ i : Nat, i ≤ l.length ∧ st.slot 8 = .int .i64 i ∧ st.slot 7 = .int .i64 l.length ∧ st.slot 0 = .list (l.map (D.int .i64)) ∧ st.slot 1 = .func (.func clo) [] [.fix e1 0, .fix e2 0] ∧ st.slot 4 = .int .i64 0 ∧ st.room 4 = [] ∧ Hd (R = idxN f i (l.drop i))) (fun st => l.length - slotI st 8) ?_ ?_
 ·exact ⟨0, Nat.zero_le _, Iy, Iy, Iy, Iy, Iy, Iy, hR⟩
 ·rintro st K ⟨i, hi, g0, g1, g2, g3, g4, g5, hO⟩ hn hx hr
  have hl : l.length ≤ 1000000 := HL
  have hO' : R = idxN f i (l.drop i) := hO
  by_cases h : i < l.length
  ·have g9 : (i : Int) < l.length := by omega
   have hw := wrapS i (by omega)
   obtain ⟨x, hx1⟩ := some_at h
   have hxm := List.mem_of_getElem? hx1
   rw [idxN_at _ hx1] at hO'
   have hc := (show ∀ x ∈ l, callL Tryz.prog (ext11b chk) clo [.int .i64 x, .fix e1 0, .fix e2 0] [] = some (.bool (f x), [.no], []) from HC) x hxm
   have ha : (l.map (D.int .i64)).getD i .bad = .int .i64 x := getD_map (f := (D.int .i64)) hx1
   cases he : f x with
   | true =>
    rw [he] at hO' hc
    rw [if_pos rfl] at hO'
    subst hO'
    clear he hxm hx1
    clear hO hn hx hl hR HC
    refine Gy ?_
    exact hr _ Wy
   | false =>
    rw [he] at hO' hc
    rw [if_neg (by decide)] at hO'
    have HO := Hd.mk hO'
    clear he hxm hx1
    clear hO hO' hx hr hl
    refine Gy ?_
    exact hn _ ⟨i + 1, h, L, L, L, L, L, L, HO⟩ Zy
  ·have g9 : ¬ (i : Int) < l.length := by omega
   rw [idxN_end _ (by omega)] at hO'
   subst hO'
   clear hO hn hr hl hR HC
   refine Gy ?_
   exact hx _ _ Wy
theorem conIn_L (l : List Int) (clo : FuncId) (e1 e2 : D) (f : Int → Bool) (hl : l.length ≤ 1000000) (hc : ∀ x ∈ l, callL Tryz.prog (ext11b chk) clo [.int .i64 x, .fix e1 0, .fix e2 0] [] = some (.bool (f x), [.no], [])) :
  callL Tryz.prog (ext11b chk) 83 [.list (l.map (D.int .i64)), .func (.func clo) [] [.fix e1 0, .fix e2 0]] [] = some (.bool (l.any f), [.no], []) := by
 have hs := idxIn_L (chk := chk) l clo e1 e2 f hl hc
 have hb := idxN_ge f l 0
 clear hc hl
 generalize idxN f 0 l = z at *
 generalize l.any f = y at *
 generalize l.map (D.int .i64) = L at *
 exact cWy 9 4 Tryz.func83
end Go.Av
namespace Go.Av
open Go.Proofs
variable [Rk] {chk : List D → Bool}
set_option maxHeartbeats 1000000 in
theorem list1_L (ns : List Nd) (nm : Nam) (n : Int) {k : Nat} (c : D) (h : cxOk 100 (smOk 100 (k + 1)) c = true) (r : Bool) (rr : List Room)
  (hrow : callL Tryz.prog (ext11b chk) 45 [eyeD ns nm, .list (cxL c), .int .i64 n] [] = some (.bool r, rr, [])) :
  callL Tryz.prog (ext11b chk) 107 [.agg [.list (cxL c)], .fix (eyeD ns nm) 0, .fix (.agg [.int .i64 n]) 0] [] = some (.bool (pseudoF c == [] && r), [.no], []) := by
 have hp := pseudo_L (chk := chk) c h
 obtain ⟨l, rfl, _, _⟩ := cxOk_inv h
 rw [show cxL (cxD l) = l from rfl] at *
 generalize pseudoF (cxD l) = p at *
 unfold cxD at hp
 unfold eyeD Nam.cs at *
 obtain ⟨T, hT⟩ := tree_fix ns
 generalize treeN ns = T0 at *
 subst hT
 clear h
 cases hq : (p == ([] : List UInt8)) with
 | true =>
  exact cWy 15 4 Tryz.func107
 | false =>
  exact cWy 15 4 Tryz.func107
set_option maxHeartbeats 1000000 in
theorem list_L (ns : List Nd) (nm : Nam) (n : Int) {k : Nat} (l : List D) (h : lsOk 100 (smOk 100 (k + 1)) l = true) (V : D → Bool)
  (hrow : ∀ c ∈ l, callL Tryz.prog (ext11b chk) 45 [eyeD ns nm, .list (cxL c), .int .i64 n] [] = some (.bool (V c), [], [])) :
  callL Tryz.prog (ext11b chk) 68 [eyeD ns nm, .list l, .int .i64 n] [] = some (.bool (l.any fun c => pseudoF c == [] && V c), [.no], []) := by
 obtain ⟨h1, h2⟩ := lsOk_mem h
 have hc := conCx_L (chk := chk) l 107 (eyeD ns nm) (.agg [.int .i64 n]) (fun c => pseudoF c == [] && V c) (by omega) (fun c hc => by obtain ⟨x, e, _⟩ := cxOk_inv (h2 c hc); rw [e]; rfl) fun c hc => list1_L ns nm n c (h2 c hc) (V c) [] (hrow c hc)
 clear hrow h1 h2 h
 unfold eyeD Nam.cs at *
 obtain ⟨T, hT⟩ := tree_fix ns
 generalize treeN ns = T0 at *
 subst hT
 generalize (l.any fun c => pseudoF c == [] && V c) = q at *
 refine cK 10 6 Tryz.func68 ?_
 repeat' (first|simp only [*, upd, AVB, AVY, ↓reduceIte, Nat.reduceEqDiff, Nat.reduceLT, Nat.reduceLeDiff, reduceCtorEq, Nat.reduceBEq, String.reduceBEq, Nat.reduceAdd, Nat.reduceSub, Nat.reduceMul, Int.reduceLE, Int.reduceLT, Int.reduceToNat, Int.reduceBEq, Int.reduceBNe, List.zipWith, dIntBin])
set_option maxHeartbeats 1000000 in
theorem fits1_L (ns : List Nd) (nm : Nam) (n : Int) (s : Sf) (r : Bool) (rr : List Room)
  (hs : callL Tryz.prog (ext11b chk) 38 [eyeD ns nm, s.d, .int .i64 n] [] = some (.bool r, rr, [])) :
  callL Tryz.prog (ext11b chk) 111 [.agg [.int .i64 s.kd, .int .i64 s.ns, .str s.pre, .str s.nm, .int .i64 s.op, .str s.tx, .bool s.fold, .int .i64 s.mark, .int .i64 s.a, .int .i64 s.b, .list s.of_], .fix (eyeD ns nm) 0, .fix (.agg [.int .i64 n]) 0] [] = some (.bool (!r), [.no], []) := by
 unfold eyeD Nam.cs Sf.d at *
 obtain ⟨T, hT⟩ := tree_fix ns
 generalize treeN ns = T0 at *
 subst hT
 exact cWy 10 4 Tryz.func111
theorem any_not {α : Type} (l : List α) (f : α → Bool) : (!(l.any fun x => !f x)) = l.all f := by
 induction l with
 | nil => rfl
 | cons a r ih => simp [List.any_cons, List.all_cons, ← ih]
set_option maxHeartbeats 1000000 in
theorem fits_L (ns : List Nd) (nm : Nam) (n : Int) {S : D → Bool} (c : Int) (l : List D) (hl : l.length ≤ 100) (hform : ∀ s ∈ l, s = (sf s).d) (V : D → Bool) (rr : List Room)
  (hs : ∀ s ∈ l, callL Tryz.prog (ext11b chk) 38 [eyeD ns nm, (sf s).d, .int .i64 n] [] = some (.bool (V s), rr, [])) :
  callL Tryz.prog (ext11b chk) 79 [eyeD ns nm, .agg [.int .i64 c, .list l], .int .i64 n] [] = some (.bool (l.all V), [.no], []) := by
 have hc := conSm_L (chk := chk) l 111 (eyeD ns nm) (.agg [.int .i64 n]) (fun s => !V s) (by omega) hform fun s hm => fits1_L ns nm n (sf s) (V s) rr (hs s hm)
 have he := any_not l V
 clear hs hl hform
 unfold eyeD Nam.cs at *
 obtain ⟨T, hT⟩ := tree_fix ns
 generalize treeN ns = T0 at *
 subst hT
 generalize (l.any fun s => !V s) = q at *
 generalize l.all V = y at *
 refine cK 12 6 Tryz.func79 ?_
 repeat' (first|simp only [*, upd, AVB, AVY, ↓reduceIte, Nat.reduceEqDiff, Nat.reduceLT, Nat.reduceLeDiff, reduceCtorEq, Nat.reduceBEq, String.reduceBEq, Nat.reduceAdd, Nat.reduceSub, Nat.reduceMul, Int.reduceLE, Int.reduceLT, Int.reduceToNat, Int.reduceBEq, Int.reduceBNe, List.zipWith, dIntBin])
set_option maxHeartbeats 1000000 in
theorem attr1_103 (ns : List Nd) (nm : Nam) (s : Sf) (a : At) (hn : nm.ok) (ha : a.vl.length ≤ 1000000) (ht : s.tx.length ≤ 1000) :
  callL Tryz.prog (ext11b chk) 103 [.agg [.str a.sp, .str a.nm, .str a.vl], .fix s.d 0, .fix (eyeD ns nm) 0] [] = some (.bool (a.nm == s.nm && (inPlF nm s.ns s.pre a.sp true && holdsF s.op s.tx s.fold a.vl)), [.no], []) := by
 have h1 := inPlace_L (chk := chk) ns nm s a.sp true hn
 have h2 : callL Tryz.prog (ext11b chk) 101 [.agg [.int .i64 s.op, .str s.tx, .bool s.fold], .str a.vl] [] = _ := holds_L (chk := chk) s.op s.tx s.fold a.vl (by omega) (by omega)
 clear hn ha ht
 generalize inPlF nm s.ns s.pre a.sp true = p at *
 generalize holdsF s.op s.tx s.fold a.vl = q at *
 unfold eyeD Nam.cs Sf.d at *
 obtain ⟨T, hT⟩ := tree_fix ns
 generalize treeN ns = T0 at *
 subst hT
 cases hnm : (a.nm == s.nm) with
 | false =>
  exact cWy 24 4 Tryz.func103
 | true =>
  cases p with
  | false =>
   exact cWy 24 4 Tryz.func103
  | true =>
   exact cWy 24 4 Tryz.func103
set_option maxHeartbeats 1000000 in
theorem attr65_L (ns : List Nd) (nm : Nam) (s : Sf) (x : Nd) (hn : nm.ok) (hx : x.at_.length ≤ 1000000) (hst : x.st.length ≤ 1000000) (ha : ∀ a ∈ x.at_, a.vl.length ≤ 1000000) (ht : s.tx.length ≤ 1000) :
  callL Tryz.prog (ext11b chk) 65 [eyeD ns nm, s.d, x.d] [] = some (.bool (x.at_.any fun a => a.nm == s.nm && (inPlF nm s.ns s.pre a.sp true && holdsF s.op s.tx s.fold a.vl)), [.no], []) := by
 have hc := conAt_L (chk := chk) x.at_ 103 s.d (eyeD ns nm) (fun a => a.nm == s.nm && (inPlF nm s.ns s.pre a.sp true && holdsF s.op s.tx s.fold a.vl)) hx fun a hm => attr1_103 ns nm s a hn (ha a hm) ht
 clear hn hx ha ht hst
 generalize (x.at_.any fun a => a.nm == s.nm && (inPlF nm s.ns s.pre a.sp true && holdsF s.op s.tx s.fold a.vl)) = q at *
 rw [ndat]
 generalize x.at_.map At.d = LA at *
 generalize x.st.map D.str = LS at *
 unfold eyeD Nam.cs Sf.d at *
 obtain ⟨T, hT⟩ := tree_fix ns
 generalize treeN ns = T0 at *
 subst hT
 refine cK 11 6 Tryz.func65 ?_
 repeat' (first|simp only [*, upd, AVB, AVY, ↓reduceIte, Nat.reduceEqDiff, Nat.reduceLT, Nat.reduceLeDiff, reduceCtorEq, Nat.reduceBEq, String.reduceBEq, Nat.reduceAdd, Nat.reduceSub, Nat.reduceMul, Int.reduceLE, Int.reduceLT, Int.reduceToNat, Int.reduceBEq, Int.reduceBNe, List.zipWith, dIntBin])
set_option maxHeartbeats 2000000 in
theorem link_L (ns : List Nd) (nm : Nam) (n : Int) (x : Nd) (hn : nm.ok) (hS : SmallD ns) :
  callL Tryz.prog (ext11b chk) 70 [eyeD ns nm, .int .i64 n, x.d] [] = some (.bool ((x.nm == [97] || x.nm == sArea) && (inPlF nm 0 [] x.sp false && plainV ns n sHref 1 [])), [.no], []) := by
 have h1 : callL Tryz.prog (ext11b chk) 63 [eyeD ns nm, .agg [.int .i64 0, .int .i64 0, .str [], .str [], .int .i64 0, .str [], .bool false, .int .i64 0, .int .i64 0, .int .i64 0, .list []], .str x.sp, .bool false] [] = _ := inPlace_L (chk := chk) ns nm ⟨0, 0, [], [], 0, [], false, 0, 0, 0, []⟩ x.sp false hn
 have h2 := plain64_L (chk := chk) ns nm n sHref 1 [] hS (by decide)
 dsimp only at h1
 generalize inPlF nm 0 [] x.sp false = p at *
 generalize plainV ns n sHref 1 [] = q at *
 rw [ndat]
 generalize x.at_.map At.d = LA at *
 generalize x.st.map D.str = LS at *
 clear hn hS
 unfold eyeD Nam.cs sHref at *
 unfold sArea
 obtain ⟨T, hT⟩ := tree_fix ns
 generalize treeN ns = T0 at *
 subst hT
 cases c1 : (x.nm == [97]) with
 | true =>
  cases p with
  | true =>
   exact cWy 28 6 Tryz.func70
  | false =>
   exact cWy 28 6 Tryz.func70
 | false =>
  cases c2 : (x.nm == [97, 114, 101, 97]) with
  | true =>
   cases p with
   | true =>
    exact cWy 28 6 Tryz.func70
   | false =>
    exact cWy 28 6 Tryz.func70
  | false =>
   exact cWy 28 6 Tryz.func70
end Go.Av
namespace Go.Av
open Go.Proofs
variable [Rk] {chk : List D → Bool}
set_option maxHeartbeats 1000000 in
theorem counted1_L (ns : List Nd) (nm : Nam) (n : Int) (s : Sf) (W : Bool)
  (hl : s.of_ ≠ [] → callL Tryz.prog (ext11b chk) 68 [eyeD ns nm, .list s.of_, .int .i64 n] [] = some (.bool W, [.no], [])) :
  callL Tryz.prog (ext11b chk) 105 [.int .i64 n, .fix s.d 0, .fix (eyeD ns nm) 0] [] = some (.bool (s.of_.isEmpty || W), [.no], []) := by
 unfold eyeD Nam.cs Sf.d at *
 obtain ⟨T, hT⟩ := tree_fix ns
 generalize treeN ns = T0 at *
 subst hT
 cases ho : s.of_ with
 | nil =>
  clear hl
  rw [show ([] : List D).isEmpty = true from rfl, Bool.true_or]
  exact cWy 16 4 Tryz.func105
 | cons x r =>
  have hl' := hl (by rw [ho]; exact List.cons_ne_nil _ _)
  rw [ho] at hl'
  have hz : (((r.length + 1 : Nat) : Int) == 0) = false := ne0 (by omega)
  have he : (x :: r).isEmpty = false := rfl
  clear hl
  exact cWy 16 4 Tryz.func105
theorem countP_take {α : Type} {W : α → Bool} {l : List α} {i : Nat} {x : α} (h : l[i]? = some x) : (l.take (i + 1)).countP W = (l.take i).countP W + (if W x = true then 1 else 0) := by
 rw [List.take_add_one, h, List.countP_append]
 simp [List.countP_cons]
set_option maxHeartbeats 4000000 in
theorem counted_L (ns : List Nd) (nm : Nam) (n : Int) (s : Sf) (W : Int → Bool) (hS : ns.length ≤ 10000) (he : elB ns n = true)
  (ha : s.a ≤ 1099511627776 ∧ -1099511627776 ≤ s.a) (hb : s.b ≤ 1099511627776 ∧ -1099511627776 ≤ s.b)
  (hn : callL Tryz.prog (ext11b chk) 105 [.int .i64 n, .fix s.d 0, .fix (eyeD ns nm) 0] [] = some (.bool (W n), [.no], []))
  (hrow : ∀ k ∈ rowI ns n, callL Tryz.prog (ext11b chk) 105 [.int .i64 k, .fix s.d 0, .fix (eyeD ns nm) 0] [] = some (.bool (W k), [.no], [])) :
  callL Tryz.prog (ext11b chk) 67 [eyeD ns nm, s.d, .int .i64 n] [] = some (.bool (nthV W ns s.a s.b n), [.no], []) := by
 have hR := row_L (chk := chk) ns n hS
 rw [if_pos he] at hR
 have hlen : (rowI ns n).length ≤ 10001 := by
  unfold rowI
  rw [if_pos he]
  have h1 := rowL_len (ns := ns) (key := pAt ns n.toNat) (m := n.toNat + 1)
  have h2 := (elB_nat he).2.1
  have h3 := (elB_nat he).1
  omega
 unfold nthV
 generalize rowI ns n = R at *
 have hcnt : R.countP W ≤ R.length := List.countP_le_length
 have hh := anbHas_L (chk := chk) s.a s.b ((R.countP W : Nat) : Int) ha hb (by omega)
 clear ha hb he hS hcnt
 unfold eyeD Nam.cs Sf.d at *
 obtain ⟨T, hT⟩ := tree_fix ns
 generalize treeN ns = T0 at *
 subst hT
 have HC := Hd.mk hrow
 clear hrow
 cases hw : W n with
 | false =>
  rw [hw] at hn
  clear hh hlen
  rw [Bool.false_and]
  refine cK 39 6 Tryz.func67 ?_
  repeat' (first|simp only [*, upd, AVB, AVY, ↓reduceIte, Nat.reduceEqDiff, Nat.reduceLT, Nat.reduceLeDiff, reduceCtorEq, Nat.reduceBEq, String.reduceBEq, Nat.reduceAdd, Nat.reduceSub, Nat.reduceMul, Int.reduceLE, Int.reduceLT, Int.reduceToNat, Int.reduceBEq, Int.reduceBNe, List.zipWith, dIntBin])
 | true =>
  rw [hw] at hn
  rw [Bool.true_and]
  generalize hq : hasAB s.a s.b ((R.countP W : Nat) : Int) = q at *
  clear hq
  have HL := Hd.mk hlen
  have HH := Hd.mk hh
  have lN := lenM R (D.int .i64)
  clear hlen hh
  refine cK 39 6 Tryz.func67 ?_
  repeat' (first|simp only [*, upd, AVB, AVY, ↓reduceIte, Nat.reduceEqDiff, Nat.reduceLT, Nat.reduceLeDiff, reduceCtorEq, Nat.reduceBEq, String.reduceBEq, Nat.reduceAdd, Nat.reduceSub, Nat.reduceMul, Int.reduceLE, Int.reduceLT, Int.reduceToNat, Int.reduceBEq, Int.reduceBNe, List.zipWith, dIntBin])
  refine loopH (fun st => ∃ i : Nat, i ≤ R.length ∧ st.slot 21 = .int .i64 i ∧ st.slot 20 = .int .i64 R.length ∧ st.slot 19 = .list (R.map (D.int .i64)) ∧ st.slot 7 = .func (.func 105) [] [.fix (.agg [.int .i64 s.kd, .int .i64 s.ns, .str s.pre, .str s.nm, .int .i64 s.op, .str s.tx, .bool s.fold, .int .i64 s.mark, .int .i64 s.a, .int .i64 s.b, .list s.of_]) 0, .fix (.agg [.fix T 0, .bool nm.has, .str nm.dft, .list (nm.pre.map .str), .list (nm.sps.map .str)]) 0] ∧ st.slot 8 = .int .i64 (((R.take i).countP W : Nat) : Int) ∧ st.slot 4 = .fix (.agg [.int .i64 s.kd, .int .i64 s.ns, .str s.pre, .str s.nm, .int .i64 s.op, .str s.tx, .bool s.fold, .int .i64 s.mark, .int .i64 s.a, .int .i64 s.b, .list s.of_]) 0) (fun st => R.length - slotI st 21) ?_ ?_
  ·refine ⟨0, Nat.zero_le _, ?_, ?_, ?_, ?_, ?_, ?_⟩
   all_goals simp only [*, AVB, AVY, ↓reduceIte, Nat.reduceEqDiff, Nat.reduceLT, Nat.reduceLeDiff, reduceCtorEq, Nat.reduceBEq, String.reduceBEq, Nat.reduceAdd, Nat.reduceSub, Nat.reduceMul, Int.reduceLE, Int.reduceLT, Int.reduceToNat, Int.reduceBEq, Int.reduceBNe, List.zipWith, dIntBin, upd]
   all_goals rfl
  ·rintro st K ⟨i, hi, g0, g1, g2, g3, g4, g5⟩ hnx hx hr
   have hl : R.length ≤ 10001 := HL
   by_cases h : i < R.length
   ·have g9 : (i : Int) < R.length := by omega
    have hw2 := wrapS i (by omega)
    obtain ⟨x, hx1⟩ := some_at h
    have hxm := List.mem_of_getElem? hx1
    have hc := (show ∀ k ∈ R, callL Tryz.prog (ext11b chk) 105 [.int .i64 k, .fix (.agg [.int .i64 s.kd, .int .i64 s.ns, .str s.pre, .str s.nm, .int .i64 s.op, .str s.tx, .bool s.fold, .int .i64 s.mark, .int .i64 s.a, .int .i64 s.b, .list s.of_]) 0, .fix (.agg [.fix T 0, .bool nm.has, .str nm.dft, .list (nm.pre.map .str), .list (nm.sps.map .str)]) 0] [] = some (.bool (W k), [.no], []) from HC) x hxm
    have ha : (R.map (D.int .i64)).getD i .bad = .int .i64 x := getD_map (f := D.int .i64) hx1
    have hct := countP_take (W := W) hx1
    have hcl : (R.take i).countP W ≤ i := Nat.le_trans List.countP_le_length (by rw [List.length_take]; omega)
    have hw3 := wrapS ((R.take i).countP W) (by omega)
    cases hq2 : W x with
    | true =>
     rw [hq2] at hc hct
     rw [if_pos rfl] at hct
     have HCT := Hd.mk hct
     clear hct hcl hxm hx1 hl hn hx hr hw hq2 hR
     refine Gy ?_
     refine hnx _ ⟨i + 1, h, ?_, ?_, ?_, ?_, ?_, ?_⟩ ?_
     ·exact L
     ·exact L
     ·exact L
     ·exact L
     ·rw [show (R.take (i + 1)).countP W = _ from HCT]
      simp only [*, AVB, AVY, ↓reduceIte, Nat.reduceEqDiff, Nat.reduceLT, Nat.reduceLeDiff, reduceCtorEq, Nat.reduceBEq, String.reduceBEq, Nat.reduceAdd, Nat.reduceSub, Nat.reduceMul, Int.reduceLE, Int.reduceLT, Int.reduceToNat, Int.reduceBEq, Int.reduceBNe, List.zipWith, dIntBin]
     ·exact L
     ·exact Zy
    | false =>
     rw [hq2] at hc hct
     rw [if_neg (by decide), Nat.add_zero] at hct
     have HCT := Hd.mk hct
     clear hct hcl hxm hx1 hl hn hx hr hw hw3 hq2 hR
     refine Gy ?_
     refine hnx _ ⟨i + 1, h, ?_, ?_, ?_, ?_, ?_, ?_⟩ ?_
     ·exact L
     ·exact L
     ·exact L
     ·exact L
     ·rw [show (R.take (i + 1)).countP W = _ from HCT]
      simp only [*, AVB, AVY, ↓reduceIte, Nat.reduceEqDiff, Nat.reduceLT, Nat.reduceLeDiff, reduceCtorEq, Nat.reduceBEq, String.reduceBEq, Nat.reduceAdd, Nat.reduceSub, Nat.reduceMul, Int.reduceLE, Int.reduceLT, Int.reduceToNat, Int.reduceBEq, Int.reduceBNe, List.zipWith, dIntBin]
     ·exact L
     ·exact Zy
   ·have g9 : ¬ (i : Int) < R.length := by omega
    rw [List.take_of_length_le (by omega)] at g4
    have hh : callL Tryz.prog (ext11b chk) 106 [.int .i64 s.a, .int .i64 s.b, .int .i64 ((R.countP W : Nat) : Int)] [] = some (.bool q, [.no], []) := HH
    clear hnx hr hl hn hw hR
    refine Gy ?_
    exact hx _ _ Wy
end Go.Av
namespace Go.Av
open Go.Proofs
variable [Rk] {chk : List D → Bool}
theorem node_small {ns : List Nd} (hS : SmallD ns) (n : Int) : (nodeI ns n).at_.length ≤ 1000000 ∧ (nodeI ns n).st.length ≤ 1000000 ∧ ∀ a ∈ (nodeI ns n).at_, a.vl.length ≤ 1000000 := by
 unfold nodeI
 split
 ·rename_i h
  unfold inB' at h
  simp only [Bool.and_eq_true, decide_eq_true_eq] at h
  obtain ⟨x, hx⟩ := some_at (show n.toNat < ns.length by omega)
  have hg : ns.getD n.toNat zeroN = x := by simp [List.getD, hx]
  rw [hg]
  have h1 := hS.2 x (List.mem_of_getElem? hx)
  refine ⟨h1.1, h1.2.1, fun a ha => ?_⟩
  have := (h1.2.2.2.2.2 a ha).2.2
  omega
 ·refine ⟨by simp [zeroN], by simp [zeroN], fun a ha => by simp [zeroN] at ha⟩
set_option maxHeartbeats 8000000 in
theorem simple_L (ns : List Nd) (nm : Nam) (n : Int) (S : Sf) (hn : nm.ok) (hS : SmallD ns) (he : elB ns n = true) (hrE : ∀ j ∈ rowI ns n, elB ns j = true) (hnm : S.nm.length ≤ 1000) (ht : S.tx.length ≤ 1000)
  (ha : S.a ≤ 1099511627776 ∧ -1099511627776 ≤ S.a) (hb : S.b ≤ 1099511627776 ∧ -1099511627776 ≤ S.b) (L : List D → Int → Bool)
  (hl : ∀ j, elB ns j = true → callL Tryz.prog (ext11b chk) 68 [eyeD ns nm, .list S.of_, .int .i64 j] [] = some (.bool (L S.of_ j), [.no], [])) :
  callL Tryz.prog (ext11b chk) 38 [eyeD ns nm, S.d, .int .i64 n] [] = some (.bool (stepV ns nm L S.d n), [.no], []) := by
 have hcnt := counted_L (chk := chk) ns nm n S (fun j => S.of_.isEmpty || L S.of_ j) hS.1 he ha hb (counted1_L ns nm n S (L S.of_ n) fun _ => hl n he) (fun j hj => counted1_L ns nm j S (L S.of_ j) fun _ => hl j (hrE j hj))
 have hlst := hl n he
 have hsta := sta40_L (chk := chk) ns n S.nm hS
 have hpar := parent_L (chk := chk) ns n
 have hcl := plain64_L (chk := chk) ns nm n sClass 3 S.nm hS hnm
 have hid := plain64_L (chk := chk) ns nm n sId 2 S.nm hS hnm
 have hlk := link_L (chk := chk) ns nm n (nodeI ns n) hn hS
 obtain ⟨x1, x2, x3⟩ := node_small hS n
 have hat := attr65_L (chk := chk) ns nm S (nodeI ns n) hn x1 x2 x3 ht
 have hip := inPlace_L (chk := chk) ns nm S (nodeI ns n).sp false hn
 have hnd := node36_L (chk := chk) ns n hS
 clear hl hrE ha hb ht hnm he hn hS x1 x2 x3
 unfold stepV
 rw [sf_d]
 dsimp only
 generalize nodeI ns n = X at *
 generalize nthV (fun j => S.of_.isEmpty || L S.of_ j) ns S.a S.b n = q7 at *
 generalize L S.of_ n = q8 at *
 generalize staI ns n S.nm = q11 at *
 generalize plainV ns n sClass 3 S.nm = q3 at *
 generalize plainV ns n sId 2 S.nm = q4 at *
 generalize ((X.nm == [97] || X.nm == sArea) && (inPlF nm 0 [] X.sp false && plainV ns n sHref 1 [])) = q12 at *
 generalize (X.at_.any fun a => a.nm == S.nm && (inPlF nm S.ns S.pre a.sp true && holdsF S.op S.tx S.fold a.vl)) = q5 at *
 generalize inPlF nm S.ns S.pre X.sp false = q2 at *
 generalize parI ns n = P at *
 generalize inB' ns n = ib at *
 rw [ndat] at hnd hat hlk
 generalize X.at_.map At.d = LA at *
 generalize X.st.map D.str = LS at *
 unfold sClass at hcl
 unfold sId at hid
 unfold eyeD Nam.cs Sf.d at *
 obtain ⟨T, hT⟩ := tree_fix ns
 generalize treeN ns = T0 at *
 subst hT
 obtain ⟨p1, p2⟩ := P
 dsimp only at hpar
 by_cases k1 : S.kd = 1
 ·rw [if_pos k1]
  generalize hkd : S.kd = kd at *
  subst k1
  clear hkd 
  clear hcnt hlst hsta hpar hcl hid hlk hat
  cases c1 : (X.nm == S.nm) with
  | true =>
   exact cWy 113 6 Tryz.func38
  | false =>
   exact cWy 113 6 Tryz.func38
 rw [if_neg k1]
 by_cases k2 : S.kd = 2
 ·rw [if_pos k2]
  generalize hkd : S.kd = kd at *
  subst k2
  clear hkd k1
  clear hcnt hlst hsta hpar hcl hid hlk hat
  exact cWy 113 6 Tryz.func38
 rw [if_neg k2]
 by_cases k3 : S.kd = 3
 ·rw [if_pos k3]
  generalize hkd : S.kd = kd at *
  subst k3
  clear hkd k1 k2
  clear hcnt hlst hsta hpar hid hlk hat hip
  exact cWy 113 6 Tryz.func38
 rw [if_neg k3]
 by_cases k4 : S.kd = 4
 ·rw [if_pos k4]
  generalize hkd : S.kd = kd at *
  subst k4
  clear hkd k1 k2 k3
  clear hcnt hlst hsta hpar hcl hlk hat hip
  exact cWy 113 6 Tryz.func38
 rw [if_neg k4]
 by_cases k5 : S.kd = 5
 ·rw [if_pos k5]
  generalize hkd : S.kd = kd at *
  subst k5
  clear hkd k1 k2 k3 k4
  clear hcnt hlst hsta hpar hcl hid hlk hip
  exact cWy 113 6 Tryz.func38
 rw [if_neg k5]
 by_cases k6 : S.kd = 6
 ·rw [if_pos k6]
  generalize hkd : S.kd = kd at *
  subst k6
  clear hkd k1 k2 k3 k4 k5
  clear hcnt hlst hsta hcl hid hlk hat hip
  exact cWy 113 6 Tryz.func38
 rw [if_neg k6]
 by_cases k7 : S.kd = 7
 ·rw [if_pos k7]
  generalize hkd : S.kd = kd at *
  subst k7
  clear hkd k1 k2 k3 k4 k5 k6
  clear hlst hsta hpar hcl hid hlk hat hip
  exact cWy 113 6 Tryz.func38
 rw [if_neg k7]
 by_cases k8 : S.kd = 8 ∨ S.kd = 9
 ·rw [if_pos k8]
  generalize hkd : S.kd = kd at *
  clear hkd k1 k2 k3 k4 k5 k6 k7
  rcases k8 with rfl | rfl
  ·clear hcnt hsta hpar hcl hid hlk hat hip
   exact cWy 113 6 Tryz.func38
  ·clear hcnt hsta hpar hcl hid hlk hat hip
   exact cWy 113 6 Tryz.func38
 rw [if_neg k8]
 by_cases k10 : S.kd = 10
 ·rw [if_pos k10]
  generalize hkd : S.kd = kd at *
  subst k10
  clear hkd k1 k2 k3 k4 k5 k6 k7 k8
  clear hcnt hsta hpar hcl hid hlk hat hip
  exact cWy 113 6 Tryz.func38
 rw [if_neg k10]
 by_cases k11 : S.kd = 11
 ·rw [if_pos k11]
  generalize hkd : S.kd = kd at *
  subst k11
  clear hkd k1 k2 k3 k4 k5 k6 k7 k10 k8
  clear hcnt hlst hpar hcl hid hlk hat hip
  exact cWy 113 6 Tryz.func38
 rw [if_neg k11]
 by_cases k12 : S.kd = 12
 ·rw [if_pos k12]
  generalize hkd : S.kd = kd at *
  subst k12
  clear hkd k1 k2 k3 k4 k5 k6 k7 k10 k11 k8
  clear hcnt hlst hsta hpar hcl hid hat hip
  exact cWy 113 6 Tryz.func38
 rw [if_neg k12]
 have k8' : ¬ S.kd = 8 := fun e => k8 (.inl e)
 have k9 : ¬ S.kd = 9 := fun e => k8 (.inr e)
 have n1 := (neI k1).1
 have n2 := (neI k2).1
 have n3 := (neI k3).1
 have n4 := (neI k4).1
 have n5 := (neI k5).1
 have n6 := (neI k6).1
 have n7 := (neI k7).1
 have n8 := (neI k8').1
 have n9 := (neI k9).1
 have n10 := (neI k10).1
 have n11 := (neI k11).1
 have n12 := (neI k12).1
 clear k1 k2 k3 k4 k5 k6 k7 k8 k8' k9 k10 k11 k12
 clear hcnt hlst hsta hpar hcl hid hlk hat hip
 exact cWy 113 6 Tryz.func38
end Go.Av
namespace Go.Av
open Go.Proofs
variable [Rk] {chk : List D → Bool}
theorem row1_L (ns : List Nd) (nm : Nam) (n : Int) (l : List D) (r : Bool)
  (hs : callL Tryz.prog (ext11b chk) 45 [eyeD ns nm, .list l, .int .i64 n] [] = some (.bool r, [], [])) :
  callL Tryz.prog (ext11b chk) 84 [.int .i64 n, .fix (eyeD ns nm) 0, .fix (.agg [.list l]) 0] [] = some (.bool r, [.no], []) := by
 unfold eyeD Nam.cs at *
 obtain ⟨T, hT⟩ := tree_fix ns
 generalize treeN ns = T0 at *
 subst hT
 exact cWy 9 4 Tryz.func84
theorem conI_L (ns : List Nd) (nm : Nam) (R : List Int) (l : List D) (V : Int → Bool) (hl : R.length ≤ 1000000)
  (hrec : ∀ m ∈ R, callL Tryz.prog (ext11b chk) 45 [eyeD ns nm, .list l, .int .i64 m] [] = some (.bool (V m), [], [])) :
  callL Tryz.prog (ext11b chk) 83 [.list (R.map (D.int .i64)), .func (.func 84) [] [.fix (eyeD ns nm) 0, .fix (.agg [.list l]) 0]] [] = some (.bool (R.any V), [.no], []) :=
 conIn_L (chk := chk) R 84 (eyeD ns nm) (.agg [.list l]) V hl fun m hm => row1_L ns nm m l (V m) (hrec m hm)
set_option maxHeartbeats 1000000 in
theorem row_nil (ns : List Nd) (nm : Nam) (n : Int) (h45 : ext11b chk 45 [eyeD ns nm, .list [], .int .i64 n] [] = none) : callL Tryz.prog (ext11b chk) 45 [eyeD ns nm, .list [], .int .i64 n] [] = some (.bool false, [.no], []) := by
 unfold eyeD Nam.cs at *
 obtain ⟨T, hT⟩ := tree_fix ns
 generalize treeN ns = T0 at *
 subst hT
 have H := h45
 clear h45
 refine callK (m := 94) (res := []) (rs := [.cell 6 4]) H Tryz.func45 rfl rfl rfl rfl rfl ?_
 clear H
 exact Wy
structure RowH (L l : List D) (cc : Int) (sl : List D) : Prop where
 z : ((L.length : Int) == 0) = false
 w : IntKind.i64.wrap ((L.length : Int) - 1) = (l.length : Int)
 g : L.getD l.length .bad = .agg [.int .i64 cc, .list sl]
 lt : (l.length : Int) < L.length
 le : (l.length : Int) ≤ L.length
 ge : (0 : Int) ≤ (l.length : Int)
 s : szOk 2 L = true
 t : L.take l.length = l
theorem rowH (l : List D) (cc : Int) (sl : List D) (h : l.length ≤ 1000) (hc : ∀ x ∈ l, (dcells x).length = 2) : RowH (l ++ [.agg [.int .i64 cc, .list sl]]) l cc sl := by
 have e : ((l ++ [D.agg [.int .i64 cc, .list sl]]).length : Int) = l.length + 1 := by simp
 refine ⟨?_, ?_, ?_, ?_, ?_, ?_, ?_, ?_⟩
 ·rw [e, beq_eq_false_iff_ne]; omega
 ·rw [e, wrap64 _ (by omega) (by omega)]; omega
 ·simp [List.getD]
 ·omega
 ·omega
 ·omega
 ·cases l with
  | nil => rfl
  | cons x r => 
   rw [List.cons_append, szOk_cons, hc x (List.mem_cons_self ..)]
   rfl
 ·simp
set_option maxHeartbeats 4000000 in
theorem row_eval (ns : List Nd) (nm : Nam) (n : Int) (l : List D) (cc : Int) (sl : List D) (V : Int → Bool) (fv : Bool) (hS : ns.length ≤ 10000) (he : elB ns n = true) (hl : l.length ≤ 1000) (hc : ∀ x ∈ l, (dcells x).length = 2)
  (h45 : ext11b chk 45 [eyeD ns nm, .list (l ++ [.agg [.int .i64 cc, .list sl]]), .int .i64 n] [] = none)
  (hfit : callL Tryz.prog (ext11b chk) 79 [eyeD ns nm, .agg [.int .i64 cc, .list sl], .int .i64 n] [] = some (.bool fv, [.no], []))
  (hrec : ∀ m, (m = (parI ns n).1 ∧ (parI ns n).2 = true) ∨ (m = (ahdI ns n).1 ∧ (ahdI ns n).2 = true) ∨ m ∈ (rowI ns n).dropLast → callL Tryz.prog (ext11b chk) 45 [eyeD ns nm, .list l, .int .i64 m] [] = some (.bool (V m), [], []))
  (hcc : fv = true → l ≠ [] → cc ≠ 1) :
  callL Tryz.prog (ext11b chk) 45 [eyeD ns nm, .list (l ++ [.agg [.int .i64 cc, .list sl]]), .int .i64 n] [] = some (.bool (fv && (l.isEmpty ||
   if cc = 2 then (parI ns n).2 && V (parI ns n).1
   else if cc = 3 then (ahdI ns n).2 && V (ahdI ns n).1
   else if cc = 1 then (upsI ns (n.toNat + 1) n).any V
   else if cc = 4 then (rowI ns n).dropLast.any V
   else false)), [.no], []) := by
 have hH := rowH l cc sl hl hc
 generalize l ++ [.agg [.int .i64 cc, .list sl]] = L at *
 obtain ⟨r1, r2, r3, r4, r5, r6, r7, r8⟩ := hH
 have HC := Hd.mk hrec
 clear hrec hc
 cases fv with
 | false =>
  rw [Bool.false_and]
  clear hcc HC
  unfold eyeD Nam.cs at *
  obtain ⟨T, hT⟩ := tree_fix ns
  generalize treeN ns = T0 at *
  subst hT
  have H := h45
  clear h45 he hS hl
  refine callK (m := 94) (res := []) (rs := [.cell 6 4]) H Tryz.func45 rfl rfl rfl rfl rfl ?_
  clear H
  exact Wy
 | true =>
  rw [Bool.true_and]
  by_cases hn : l = []
  ·have hl0 : ((l.length : Int) == 0) = true := by rw [hn]; rfl
   have hie : l.isEmpty = true := by rw [hn]; rfl
   clear hcc HC hn
   unfold eyeD Nam.cs at *
   obtain ⟨T, hT⟩ := tree_fix ns
   generalize treeN ns = T0 at *
   subst hT
   have H := h45
   clear h45 he hS hl
   rw [hie, Bool.true_or]
   clear hie
   refine callK (m := 94) (res := []) (rs := [.cell 6 4]) H Tryz.func45 rfl rfl rfl rfl rfl ?_
   clear H
   exact Wy
  have c1 := hcc rfl hn
  have hl0 := ne0 (n := l.length) (fun e => hn (List.eq_nil_of_length_eq_zero e))
  have hie : l.isEmpty = false := by cases l with | nil => exact absurd rfl hn | cons a r => rfl
  rw [hie, Bool.false_or, if_neg (c := cc = 1) c1]
  obtain ⟨i1, i2, i3⟩ := neI c1
  clear hcc hn hie c1
  by_cases k2 : cc = 2
  ·rw [if_pos k2]
   subst k2
   clear i1 i2 i3
   have hp := parent_L (chk := chk) ns n
   have hr : (parI ns n).2 = true → callL Tryz.prog (ext11b chk) 45 [eyeD ns nm, .list l, .int .i64 (parI ns n).1] [] = some (.bool (V (parI ns n).1), [], []) := fun e => (show ∀ m, _ → _ from HC) _ (.inl ⟨rfl, e⟩)
   generalize parI ns n = p at *
   obtain ⟨p1, p2⟩ := p
   dsimp only at hp hr
   generalize V p1 = q at *
   clear HC
   unfold eyeD Nam.cs at *
   obtain ⟨T, hT⟩ := tree_fix ns
   generalize treeN ns = T0 at *
   subst hT
   have H := h45
   clear h45 he hS hl
   cases p2 with
   | true =>
    have hr := hr rfl
    refine callK (m := 94) (res := []) (rs := [.cell 6 4]) H Tryz.func45 rfl rfl rfl rfl rfl ?_
    clear H
    exact Wy
   | false =>
    clear hr
    refine callK (m := 94) (res := []) (rs := [.cell 6 4]) H Tryz.func45 rfl rfl rfl rfl rfl ?_
    clear H
    exact Wy
  rw [if_neg k2]
  obtain ⟨j1, j2, j3⟩ := neI k2
  clear k2
  by_cases k3 : cc = 3
  ·rw [if_pos k3]
   subst k3
   clear i1 i2 i3 j1 j2 j3
   have hp := ahead_L (chk := chk) ns n hS
   have hr : (ahdI ns n).2 = true → callL Tryz.prog (ext11b chk) 45 [eyeD ns nm, .list l, .int .i64 (ahdI ns n).1] [] = some (.bool (V (ahdI ns n).1), [], []) := fun e => (show ∀ m, _ → _ from HC) _ (.inr (.inl ⟨rfl, e⟩))
   generalize ahdI ns n = p at *
   obtain ⟨p1, p2⟩ := p
   dsimp only at hp hr
   generalize V p1 = q at *
   clear HC
   unfold eyeD Nam.cs at *
   obtain ⟨T, hT⟩ := tree_fix ns
   generalize treeN ns = T0 at *
   subst hT
   have H := h45
   clear h45 he hS hl
   cases p2 with
   | true =>
    have hr := hr rfl
    refine callK (m := 94) (res := []) (rs := [.cell 6 4]) H Tryz.func45 rfl rfl rfl rfl rfl ?_
    clear H
    exact Wy
   | false =>
    clear hr
    refine callK (m := 94) (res := []) (rs := [.cell 6 4]) H Tryz.func45 rfl rfl rfl rfl rfl ?_
    clear H
    exact Wy
  rw [if_neg k3]
  obtain ⟨l1, l2, l3⟩ := neI k3
  clear k3
  by_cases k4 : cc = 4
  ·rw [if_pos k4]
   subst k4
   clear i1 i2 i3 j1 j2 j3 l1 l2 l3
   have hp := row_L (chk := chk) ns n hS
   rw [if_pos he] at hp
   have hlen : (rowI ns n).length ≤ 10001 ∧ (rowI ns n).length ≠ 0 := by
    unfold rowI
    rw [if_pos he]
    have h1 := rowL_len (ns := ns) (key := pAt ns n.toNat) (m := n.toNat + 1)
    obtain ⟨h2, h3, h4⟩ := elB_nat he
    have h5 := rowL_succ (ns := ns) h4
    refine ⟨by omega, ?_⟩
    rw [h5]
    simp
   have hq := conI_L (chk := chk) ns nm (rowI ns n).dropLast l V (by rw [List.length_dropLast]; omega) fun m hm => (show ∀ m, _ → _ from HC) _ (.inr (.inr hm))
   generalize rowI ns n = R at *
   have t1 : IntKind.i64.wrap ((R.length : Int) - 1) = ((R.length - 1 : Nat) : Int) := by rw [wrap64 _ (by omega) (by omega)]; omega
   have t2 : ((R.length - 1 : Nat) : Int) ≤ R.length := by omega
   have t3 : (0 : Int) ≤ ((R.length - 1 : Nat) : Int) := by omega
   have t4 : (R.map (D.int .i64)).take (R.length - 1) = R.dropLast.map (D.int .i64) := by rw [List.dropLast_eq_take, List.map_take]
   have t5 : szOk 1 (R.map (D.int .i64)) = true := by cases R <;> rfl
   have lN := lenM R (D.int .i64)
   generalize R.dropLast.any V = q at *
   clear HC hlen
   unfold eyeD Nam.cs at *
   obtain ⟨T, hT⟩ := tree_fix ns
   generalize treeN ns = T0 at *
   subst hT
   have H := h45
   clear h45 he hS hl
   refine callK (m := 94) (res := []) (rs := [.cell 6 4]) H Tryz.func45 rfl rfl rfl rfl rfl ?_
   clear H
   repeat' (first|simp only [*, upd, AVB, AVY, ↓reduceIte, Nat.reduceEqDiff, Nat.reduceLT, Nat.reduceLeDiff, reduceCtorEq, Nat.reduceBEq, String.reduceBEq, Nat.reduceAdd, Nat.reduceSub, Nat.reduceMul, Int.reduceLE, Int.reduceLT, Int.reduceToNat, Int.reduceBEq, Int.reduceBNe, List.zipWith, dIntBin]|refine drW_intro (by kernel_rfl) ?_)
  rw [if_neg k4]
  obtain ⟨m1, m2, m3⟩ := neI k4
  clear k4 HC
  unfold eyeD Nam.cs at *
  obtain ⟨T, hT⟩ := tree_fix ns
  generalize treeN ns = T0 at *
  subst hT
  have H := h45
  clear h45 he hS hl
  refine callK (m := 94) (res := []) (rs := [.cell 6 4]) H Tryz.func45 rfl rfl rfl rfl rfl ?_
  clear H
  exact Wy
end Go.Av
