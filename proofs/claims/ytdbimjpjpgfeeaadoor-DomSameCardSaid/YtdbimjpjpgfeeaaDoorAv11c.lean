/- Chapter 11: dom's copied: a node in new memory. Conditions: its two lists are read. -/
import Derived.Test.YtdbimjpjpgfeeaaDoorAv11b
import Derived.Test.YtdbimjpjpgfeeaaDoorStp
set_option linter.unusedVariables false
set_option linter.unusedSimpArgs false
set_option maxRecDepth 100000
namespace Go.Av
open Go.Proofs Go.RowKit Go.Proofs.YtdbimjpjpgfeeaaDoor
theorem den_ge {F : Nat → Nat → Prop} {w W : World} {v : Value} {d : D} (h : Den0 F w v d) (hlt : Lt F w) (hb : Ge w W) : Den0 F W v d :=
  h.ext (S := fun _ => False) ⟨hb.os, hb.tape, hb.output, hb.size, fun b h _ => hb.block b h, fun b o h => h, fun b o h => by unfold World.cell?; rw [hb.block b (hlt b o h)], fun b es c hf hm => (hb.block b (hlt b 0 hf)).trans hm⟩
theorem lt_ge {F : Nat → Nat → Prop} {w W : World} (hlt : Lt F w) (hb : Ge w W) : Lt F W := fun b o h => Nat.lt_of_lt_of_le (hlt b o h) hb.size
/-- What was fixed, and every block from a number on. -/
def nx (F : Nat → Nat → Prop) (m : Nat) (w' : World) : Nat → Nat → Prop := fun b o => F b o ∨ (m ≤ b ∧ b < w'.heap.size)
theorem nx_keep {F : Nat → Nat → Prop} {w W W2 : World} {m m' A : Nat} {v : Value} {d : D} (h : Den0 (nx F m W) W v d) (hlt : Lt F w) (hW : w.heap.size ≤ W.heap.size) (hA : w.heap.size ≤ A) (hA2 : A < m) (hm : m' ≤ m) (hg : W.grownBy W2 (some A)) : Den0 (nx F m' W2) W2 v d := by
  have hne : ∀ b o, nx F m W b o → b < W.heap.size ∧ b ≠ A := by
    rintro b o (h | h)
    · have := hlt b o h
      exact ⟨by omega, by omega⟩
    · exact ⟨h.2, by omega⟩
  refine h.ext (S := fun b => b = A) ⟨hg.os, hg.tape, hg.output, hg.size, fun b h hn => hg.block b h (fun e => hn (by injection e)), fun b o h => ?_, fun b o h => ?_, fun b es c hf hm => (hg.block b (hne b 0 hf).1 (fun e => (hne b 0 hf).2 (by injection e))).trans hm⟩
  · exact h.imp id fun h => ⟨by omega, Nat.lt_of_lt_of_le h.2 hg.size⟩
  · unfold World.cell?
    rw [hg.block b (hne b o h).1 (fun e => (hne b o h).2 (by injection e))]
theorem nx_of_nw {F : Nat → Nat → Prop} {W W' : World} {m : Nat} {v : Value} {d : D} (h : Den0 (nw F W W') W' v d) (hm : m ≤ W.heap.size) : Den0 (nx F m W') W' v d :=
  h.grow fun b o h => h.imp id fun h => ⟨Nat.le_trans hm h.1, h.2⟩
theorem grown_refl (w : World) (r : Option Nat) : w.grownBy w r := ⟨rfl, rfl, rfl, Nat.le_refl _, fun _ _ _ => rfl⟩
theorem grown_ge {a w w' : World} {r : Option Nat} (h : a.grownBy w r) (k : Ge w w') : a.grownBy w' r :=
  ⟨k.os.trans h.os, k.tape.trans h.tape, k.output.trans h.output, Nat.le_trans h.size k.size, fun b hb hne => (k.block b (Nat.lt_of_lt_of_le hb h.size)).trans (h.block b hb hne)⟩
theorem ge_put {w w' : World} (h : Ge w w') {p : Addr} (hp : w.heap.size ≤ p.block) (v : Value) : Ge w (w'.setCell p v) := Below.setCell h hp v
theorem below_of_grown_row {w W W2 : World} {B : Nat} (h : Ge w W) (hg : W.grownBy W2 (some B)) (hB : w.heap.size ≤ B) : Ge w W2 :=
  ⟨hg.os.trans h.os, hg.tape.trans h.tape, hg.output.trans h.output, Nat.le_trans h.size hg.size, fun b hb => (hg.block b (Nat.lt_of_lt_of_le hb h.size) (fun e => by injection e with e; omega)).trans (h.block b hb)⟩
/-- slices.Clone, in a later world. -/
theorem clone46_ge {es : List D} {F : Nat → Nat → Prop} {w W : World} {v : Value} (hlt : Lt F w) (hd : Den0 F w v (.list es)) (hs : ∀ e ∈ es, (dcells e).length = 3) (hL : es.length ≤ 1000000000) (hG : Ge w W) :
    Calls Tryd.prog 46 #[v] W fun e W' => ∃ x n c, e = .returned (.slice x n c) ∧ Ge W W' ∧ Den0 (nw F W W') W' (.slice x n c) (.list es) := by
  refine (clone46_any es F W v (lt_ge hlt hG) (den_ge hd hlt hG) hs hL).mono ?_
  rintro e W' ⟨v', rfl, hb, hv⟩
  have h := (hv 0 fun _ _ => 0).list_
  cases h with
  | list a n c sz es vs h1 h2 h3 h4 h5 h6 h7 => exact ⟨a, n, c, rfl, hb, .list a n c sz es vs h1 h2 h3 h4 h5 h6 h7⟩
theorem clone47_ge {es : List D} {F : Nat → Nat → Prop} {w W : World} {v : Value} (hlt : Lt F w) (hd : Den0 F w v (.list es)) (hs : ∀ e ∈ es, (dcells e).length = 1) (hL : es.length ≤ 1000000000) (hG : Ge w W) :
    Calls Tryd.prog 47 #[v] W fun e W' => ∃ x n c, e = .returned (.slice x n c) ∧ Ge W W' ∧ Den0 (nw F W W') W' (.slice x n c) (.list es) := by
  refine (clone47_any es F W v (lt_ge hlt hG) (den_ge hd hlt hG) hs hL).mono ?_
  rintro e W' ⟨v', rfl, hb, hv⟩
  have h := (hv 0 fun _ _ => 0).list_
  cases h with
  | list a n c sz es vs h1 h2 h3 h4 h5 h6 h7 => exact ⟨a, n, c, rfl, hb, .list a n c sz es vs h1 h2 h3 h4 h5 h6 h7⟩
theorem copied_any (p k : Int) (sp nm tx : ByteArray) (v4 v5 : Value) (la ls : List D) (F : Nat → Nat → Prop) (w : World) (hlt : Lt F w) (hd4 : Den0 F w v4 (.list la)) (hd5 : Den0 F w v5 (.list ls))
    (hs4 : ∀ e ∈ la, (dcells e).length = 3) (hs5 : ∀ e ∈ ls, (dcells e).length = 1) (hL4 : la.length ≤ 1000000000) (hL5 : ls.length ≤ 1000000000) (o4 : v4.oneCell' = true) (o5 : v5.oneCell' = true) :
    Calls Tryd.prog 30 #[.agg #[.int .i64 p, .int .i64 k, .string sp, .string nm, v4, v5, .string tx]] w fun e w' => ∃ u4 u5, e = .returned (.agg #[.int .i64 p, .int .i64 k, .string sp, .string nm, u4, u5, .string tx]) ∧ Ge w w' ∧
      Den0 (nw F w w') w' u4 (.list la) ∧ Den0 (nw F w w') w' u5 (.list ls) ∧ u4.oneCell' = true ∧ u5.oneCell' = true := by
  have hW0 : ∀ o1 o2, Ge w ((w.alloc o1).alloc o2) := fun o1 o2 => ((Below.refl _ w).alloc (Nat.le_refl _) o1).alloc (by simp) o2
  have c46 := @clone46_ge la F w
  have c47 := @clone47_ge ls F w
  go_enter Tryd.func30, Tryd.ntmps30
  go_wp2_with fail
  have G0 := hW0 (.cells #[.int .i64 p, .int .i64 k, .string sp, .string nm, v4, v5, .string tx] 26) (.cells #[.int .i64 0, .int .i64 0, .string ⟨#[]⟩, .string ⟨#[]⟩, .slice none 0 0, .slice none 0 0, .string ⟨#[]⟩] 26)
  have B0 : Bk ((w.alloc (.cells #[.int .i64 p, .int .i64 k, .string sp, .string nm, v4, v5, .string tx] 26)).alloc (.cells #[.int .i64 0, .int .i64 0, .string ⟨#[]⟩, .string ⟨#[]⟩, .slice none 0 0, .slice none 0 0, .string ⟨#[]⟩] 26)) w.heap.size 26 #[.int .i64 p, .int .i64 k, .string sp, .string nm, v4, v5, .string tx] := (Bk.new _ _ _).alloc _
  have Z0 : Bk ((w.alloc (.cells #[.int .i64 p, .int .i64 k, .string sp, .string nm, v4, v5, .string tx] 26)).alloc (.cells #[.int .i64 0, .int .i64 0, .string ⟨#[]⟩, .string ⟨#[]⟩, .slice none 0 0, .slice none 0 0, .string ⟨#[]⟩] 26)) (w.heap.size + 1) 26 #[.int .i64 0, .int .i64 0, .string ⟨#[]⟩, .string ⟨#[]⟩, .slice none 0 0, .slice none 0 0, .string ⟨#[]⟩] := by
    have := Bk.new (w.alloc (.cells #[.int .i64 p, .int .i64 k, .string sp, .string nm, v4, v5, .string tx] 26)) 26 #[.int .i64 0, .int .i64 0, .string ⟨#[]⟩, .string ⟨#[]⟩, .slice none 0 0, .slice none 0 0, .string ⟨#[]⟩]
    simpa using this
  go_region_law (first
    | (go_simp; go_at_call 46; refine (c46 hlt hd4 hs4 hL4 (by first | exact G0 | exact G0.drew)).mono ?_; rintro e W4 ⟨x4, n4, e4, rfl, hb4, hv4⟩; have G4 := Ge.tr (by first | exact G0 | exact G0.drew) hb4; have B4 := Bk.below (by first | exact B0 | exact B0.drew) hb4 (by first | exact B0.lt | exact B0.drew.lt); have q4 := B4.cell 5; have q7 := B4.cell 4; have q5 := B4.free 4; have q6 := B4.free 5; have Z4 := Bk.below (by first | exact Z0 | exact Z0.drew) hb4 (by first | exact Z0.lt | exact Z0.drew.lt); simp only [List.getElem?_toArray, List.getElem?_cons_succ, List.getElem?_cons_zero] at q4 q7)
    | (go_simp; go_at_call 47; refine (c47 hlt hd5 hs5 hL5 (by first | exact G4 | exact G4.drew | exact ge_put G4 (by simp) _)).mono ?_; rintro e W5 ⟨x5, n5, e5, rfl, hb5, hv5⟩; have B5 := Bk.below (by first | exact B4 | exact B4.put _ _) hb5 (by first | (simp; exact B4.lt) | exact B4.lt); have s6 := B5.cell 4; have s7 := B5.cell 5; simp at s6 s7; have s4 := B5.free 4; have s5 := B5.free 5; have Z5 := Bk.below (by first | exact Z4 | exact Z4.other (by simp) _) hb5 (by first | exact Z4.lt | (simp; exact Z4.lt))))
  all_goals (
    have BF := (B5.put 4 (.slice x4 n4 e4)).put 5 (.slice x5 n5 e5)
    have ZF := (Z5.other (p := ⟨w.heap.size, 4, none⟩) (by simp) (.slice x4 n4 e4)).other (p := ⟨w.heap.size, 5, none⟩) (by simp) (.slice x5 n5 e5)
    have GA := grown_put (grown_put (grown_refl W5 (some w.heap.size)) (p := ⟨w.heap.size, 4, none⟩) rfl (.slice x4 n4 e4)) (p := ⟨w.heap.size, 5, none⟩) rfl (.slice x5 n5 e5)
    have hsz : w.heap.size < W4.heap.size := B4.lt
    have G5 : Ge w W5 := G4.tr hb5
    have z4 : w.heap.size + 2 ≤ W4.heap.size := Nat.le_trans (by first | (show _ ≤ ((w.heap.push _).push _).size; simp; done) | simp) hb4.size
    have v5F := nx_keep (A := w.heap.size) (nx_of_nw (m := w.heap.size + 2) hv5 (by first | exact z4 | (simp; exact z4))) hlt G5.size (Nat.le_refl _) (by omega) (Nat.le_refl _) GA
    have v4F := nx_keep (A := w.heap.size) (nx_of_nw (m := w.heap.size + 2) hv4 (by simp)) hlt G4.size (Nat.le_refl _) (by omega) (Nat.le_refl _) (grown_put (grown_put (grown_ge (by first | exact grown_refl W4 _ | exact grown_put (grown_refl W4 (some w.heap.size)) (p := ⟨w.heap.size, 4, none⟩) rfl (.slice x4 n4 e4)) hb5) (p := ⟨w.heap.size, 4, none⟩) rfl (.slice x4 n4 e4)) (p := ⟨w.heap.size, 5, none⟩) rfl (.slice x5 n5 e5))
    have GF : Ge w ((W5.setCell ⟨w.heap.size, 4, none⟩ (.slice x4 n4 e4)).setCell ⟨w.heap.size, 5, none⟩ (.slice x5 n5 e5)) := ge_put (ge_put G5 (by simp) _) (by simp) _
    clear GA B5 Z5 z4 s4 s5 s6 s7 q4 q5 q6 q7 B4 Z4 hb5 hv5 hv4 hb4 G5 G4
    generalize ((W5.setCell ⟨w.heap.size, 4, none⟩ (.slice x4 n4 e4)).setCell ⟨w.heap.size, 5, none⟩ (.slice x5 n5 e5)) = W6 at *
    have b0 := BF.cell 0; have b1 := BF.cell 1; have b2 := BF.cell 2; have b3 := BF.cell 3; have b4 := BF.cell 4; have b5 := BF.cell 5; have b6 := BF.cell 6
    have z0 := ZF.cell 0; have z1 := ZF.cell 1; have z2 := ZF.cell 2; have z3 := ZF.cell 3; have z4 := ZF.cell 4; have z5 := ZF.cell 5; have z6 := ZF.cell 6
    have f0 := ZF.free 0; have f1 := ZF.free 1; have f2 := ZF.free 2; have f3 := ZF.free 3; have f4 := ZF.free 4; have f5 := ZF.free 5; have f6 := ZF.free 6
    simp at b0 b1 b2 b3 b4 b5 b6 z0 z1 z2 z3 z4 z5 z6)
  all_goals go_wp2_with fail
  all_goals (
    have BZ := ((((((ZF.put 0 (.int .i64 p)).put 1 (.int .i64 k)).put 2 (.string sp)).put 3 (.string nm)).put 4 (.slice x4 n4 e4)).put 5 (.slice x5 n5 e5)).put 6 (.string tx)
    have GZ := grown_put (grown_put (grown_put (grown_put (grown_put (grown_put (grown_put (grown_refl W6 (some (w.heap.size + 1))) (p := ⟨w.heap.size + 1, 0, none⟩) rfl (.int .i64 p)) (p := ⟨w.heap.size + 1, 1, none⟩) rfl (.int .i64 k)) (p := ⟨w.heap.size + 1, 2, none⟩) rfl (.string sp)) (p := ⟨w.heap.size + 1, 3, none⟩) rfl (.string nm)) (p := ⟨w.heap.size + 1, 4, none⟩) rfl (.slice x4 n4 e4)) (p := ⟨w.heap.size + 1, 5, none⟩) rfl (.slice x5 n5 e5)) (p := ⟨w.heap.size + 1, 6, none⟩) rfl (.string tx)
    have v5Z := nx_keep (m' := w.heap.size) v5F hlt GF.size (by omega) (by omega) (by omega) GZ
    have v4Z := nx_keep (m' := w.heap.size) v4F hlt GF.size (by omega) (by omega) (by omega) GZ
    have GY : Ge w (((((((W6.setCell ⟨w.heap.size + 1, 0, none⟩ (.int .i64 p)).setCell ⟨w.heap.size + 1, 1, none⟩ (.int .i64 k)).setCell ⟨w.heap.size + 1, 2, none⟩ (.string sp)).setCell ⟨w.heap.size + 1, 3, none⟩ (.string nm)).setCell ⟨w.heap.size + 1, 4, none⟩ (.slice x4 n4 e4)).setCell ⟨w.heap.size + 1, 5, none⟩ (.slice x5 n5 e5)).setCell ⟨w.heap.size + 1, 6, none⟩ (.string tx)) := below_of_grown_row GF GZ (by omega)
    clear GZ GF b0 b1 b2 b3 b4 b5 b6 z0 z1 z2 z3 z4 z5 z6 f0 f1 f2 f3 f4 f5 f6 BF ZF
    generalize (((((((W6.setCell ⟨w.heap.size + 1, 0, none⟩ (.int .i64 p)).setCell ⟨w.heap.size + 1, 1, none⟩ (.int .i64 k)).setCell ⟨w.heap.size + 1, 2, none⟩ (.string sp)).setCell ⟨w.heap.size + 1, 3, none⟩ (.string nm)).setCell ⟨w.heap.size + 1, 4, none⟩ (.slice x4 n4 e4)).setCell ⟨w.heap.size + 1, 5, none⟩ (.slice x5 n5 e5)).setCell ⟨w.heap.size + 1, 6, none⟩ (.string tx)) = W7 at *
    have z0 := BZ.cell 0; have z1 := BZ.cell 1; have z2 := BZ.cell 2; have z3 := BZ.cell 3; have z4 := BZ.cell 4; have z5 := BZ.cell 5; have z6 := BZ.cell 6
    simp at z0 z1 z2 z3 z4 z5 z6
    refine ⟨rfl, .agg #[.int .i64 p, .int .i64 k, .string sp, .string nm, .slice x4 n4 e4, .slice x5 n5 e5, .string tx], ?_, _, _, rfl, GY, v4Z, v5Z, rfl, rfl⟩
    simp [results, go_sem, z0, z1, z2, z3, z4, z5, z6, Tryd.f30])
end Go.Av
