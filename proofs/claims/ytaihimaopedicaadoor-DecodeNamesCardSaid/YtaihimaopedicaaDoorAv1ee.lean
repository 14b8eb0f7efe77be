/- Chapter 1: the law on errors' names, walked: it hands back true. -/
import Derived.Test.YtaihimaopedicaaDoorAv1ed
import Derived.Test.YtaihimaopedicaaDoorSp
set_option linter.unusedVariables false
set_option linter.unusedSimpArgs false
namespace Go.Proofs.YtaihimaopedicaaDoor
open Go.RowKit Go.Extern.Stop Go.Stop Go.Extern
/-- Two faults in memory, the second one from the first. -/
structure Fs (F : Nat) (a : Int) (w : World) : Prop where
  err : ErrT w
  c0 : w.cell? ⟨F, 0, none⟩ = some (.int .i64 10)
  c1 : w.cell? ⟨F, 1, none⟩ = some (.int .i64 a)
  c2 : w.cell? ⟨F, 2, none⟩ = some .nilIface
  d0 : w.cell? ⟨F + 1, 0, none⟩ = some (.int .i64 31)
  d1 : w.cell? ⟨F + 1, 1, none⟩ = some (.int .i64 3)
  d2 : w.cell? ⟨F + 1, 2, none⟩ = some (.iface 35 (.pointer (some ⟨F, 0, none⟩)))
  lt : F + 1 < w.heap.size
theorem Fs.below {F : Nat} {a : Int} {w w' : World} (h : Fs F a w) (hb : Below w.heap.size w w') : Fs F a w' :=
  have hF : F < w.heap.size := Nat.lt_of_succ_lt h.lt
  ⟨h.err.below hb, (hb.cell (p := ⟨F, 0, none⟩) hF).trans h.c0, (hb.cell (p := ⟨F, 1, none⟩) hF).trans h.c1, (hb.cell (p := ⟨F, 2, none⟩) hF).trans h.c2,
    (hb.cell (p := ⟨F + 1, 0, none⟩) h.lt).trans h.d0, (hb.cell (p := ⟨F + 1, 1, none⟩) h.lt).trans h.d1, (hb.cell (p := ⟨F + 1, 2, none⟩) h.lt).trans h.d2, Nat.lt_of_lt_of_le h.lt hb.size⟩
theorem Fs.new (a : Int) (w : World) (h : ErrT w) : Fs w.heap.size a ((w.alloc (.cells #[.int .i64 10, .int .i64 a, .nilIface] 37)).alloc (.cells #[.int .i64 31, .int .i64 3, .iface 35 (.pointer (some ⟨w.heap.size, 0, none⟩))] 37)) := by
  have hb0 := (Below.refl w.heap.size w).alloc (Nat.le_refl _) (.cells #[.int .i64 10, .int .i64 a, .nilIface] 37)
  have hb1 := hb0.alloc (by simp) (.cells #[.int .i64 31, .int .i64 3, .iface 35 (.pointer (some ⟨w.heap.size, 0, none⟩))] 37)
  refine ⟨h.below hb1, ?_, ?_, ?_, ?_, ?_, ?_, by simp⟩
  · rw [World.cell?_alloc_lt _ _ ⟨w.heap.size, 0, none⟩ (by simp)]; simp
  · rw [World.cell?_alloc_lt _ _ ⟨w.heap.size, 1, none⟩ (by simp)]; simp
  · rw [World.cell?_alloc_lt _ _ ⟨w.heap.size, 2, none⟩ (by simp)]; simp
  · rw [World.cell?_alloc_at _ _ _ _ (by simp)]; rfl
  · rw [World.cell?_alloc_at _ _ _ _ (by simp)]; rfl
  · rw [World.cell?_alloc_at _ _ _ _ (by simp)]; rfl
set_option maxHeartbeats 4000000 in
theorem names_any (a : Int) (w : World) (hg : ErrT w) : Calls Tryd.prog 3 #[.int .i64 a] w fun e w' => e = .returned (.bool true) ∧ Below w.heap.size w w' := by
  have ha : (a == a) = true := by simp
  go_enter Tryd.func3, Tryd.ntmps3
  go_wp2_with (first
    | (go_at_call 4; refine (speaks_any w).mono ?_; rintro e w1 ⟨rfl, hT⟩; have hE := hg.below hT)
    | (go_at_call 5; refine (fail_any 10 a _).mono ?_; rintro e w2 ⟨rfl, rfl⟩)
    | (go_at_call 6; refine (wrap_any 31 3 35 _ _).mono ?_; rintro e w3 ⟨rfl, rfl⟩; have hF := Fs.new a w1 hE; have hT3 := (hT.alloc hT.size (.cells #[.int .i64 10, .int .i64 a, .nilIface] 37)).alloc (by simp; have := hT.size; omega) (.cells #[.int .i64 31, .int .i64 3, .iface 35 (.pointer (some ⟨w1.heap.size, 0, none⟩))] 37))
    | (go_at_call_of 7 (Value.iface 35 (.pointer (some ⟨w1.heap.size, 0, none⟩))); refine (kind_any w1.heap.size 10 _ hF.err hF.c0).mono ?_; rintro e w4 ⟨rfl, hb⟩; replace hT3 := hT3.trans (hb.mono hT3.size); replace hF := hF.below hb)
    | (go_at_call_of 8 (Value.iface 35 (.pointer (some ⟨w1.heap.size, 0, none⟩))); refine (at_any w1.heap.size a _ hF.err hF.c1).mono ?_; rintro e w5 ⟨rfl, hb⟩; replace hT3 := hT3.trans (hb.mono hT3.size); replace hF := hF.below hb)
    | (go_at_call 7; refine (kind_any (w1.heap.size + 1) 31 _ hF.err hF.d0).mono ?_; rintro e w6 ⟨rfl, hb⟩; replace hT3 := hT3.trans (hb.mono hT3.size); replace hF := hF.below hb)
    | (go_at_call 8; refine (at_any (w1.heap.size + 1) 3 _ hF.err hF.d1).mono ?_; rintro e w7 ⟨rfl, hb⟩; replace hT3 := hT3.trans (hb.mono hT3.size); replace hF := hF.below hb)
    | (go_at_call_of 9 (Value.int .i64 31); refine (has_of (w1.heap.size + 1) 31 true _ (is_hit (w1.heap.size + 1) 31 31 _ hF.d0 rfl)).mono ?_; rintro e w8 ⟨rfl, rfl⟩)
    | (go_at_call_of 9 (Value.int .i64 10); refine (has_of (w1.heap.size + 1) 10 true _ (is_inner (w1.heap.size + 1) w1.heap.size 10 31 10 _ hF.d0 rfl hF.d2 hF.c0 rfl)).mono ?_; rintro e w9 ⟨rfl, rfl⟩)
    | (go_at_call_of 9 (Value.int .i64 11); refine (has_of (w1.heap.size + 1) 11 false _ (is_none (w1.heap.size + 1) w1.heap.size 11 31 10 _ hF.d0 rfl hF.d2 hF.c0 rfl hF.c2)).mono ?_; rintro e w10 ⟨rfl, rfl⟩))
  go_ret
  exact ⟨rfl, hT3⟩
end Go.Proofs.YtaihimaopedicaaDoor
