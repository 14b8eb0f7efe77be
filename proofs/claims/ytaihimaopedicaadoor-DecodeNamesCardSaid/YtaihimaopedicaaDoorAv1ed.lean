/- Chapter 1: faults made, told by their numbers and places. -/
import Derived.Test.YtaihimaopedicaaDoorAv1ec
set_option linter.unusedVariables false
set_option linter.unusedSimpArgs false
namespace Go.Proofs.YtaihimaopedicaaDoor
open Go.RowKit Go.Extern.Stop Go.Stop Go.Extern
/-- What errors.As asks of the memory: reflectlite's type of 'error'. -/
def ErrT (w : World) : Prop := w.cell? ⟨0, 0, none⟩ = some (.iface 61 (.agg #[.pointer (some ⟨1, 24, none⟩)]))
theorem ErrT.lt {w : World} (h : ErrT w) : 0 < w.heap.size := by
  rcases Nat.eq_zero_or_pos w.heap.size with h0 | h1
  · simp [ErrT, World.cell?, h0] at h
  · exact h1
theorem ErrT.below {w w' : World} (h : ErrT w) (hb : Below w.heap.size w w') : ErrT w' := (hb.cell (p := ⟨0, 0, none⟩) h.lt).trans h
theorem fail_any (k a : Int) (w : World) : Calls Tryd.prog 5 #[.int .i64 k, .int .i64 a] w fun e w' => e = .returned (.iface 35 (.pointer (some ⟨w.heap.size, 0, none⟩))) ∧ w' = w.alloc (.cells #[.int .i64 k, .int .i64 a, .nilIface] 37) := by
  go_enter Tryd.func5, Tryd.ntmps5
  go_wp2
  go_ret
  exact ⟨rfl, rfl⟩
theorem wrap_any (k a : Int) (t : TypeId) (q : Addr) (w : World) : Calls Tryd.prog 6 #[.int .i64 k, .int .i64 a, .iface t (.pointer (some q))] w fun e w' => e = .returned (.iface 35 (.pointer (some ⟨w.heap.size, 0, none⟩))) ∧ w' = w.alloc (.cells #[.int .i64 k, .int .i64 a, .iface t (.pointer (some q))] 37) := by
  go_enter Tryd.func6, Tryd.ntmps6
  go_wp2
  go_ret
  exact ⟨rfl, rfl⟩
/-- errors.As, by what it leaves. -/
theorem as_box (e : Addr) (B : Nat) (w : World) (hg : ErrT w) (ht : w.cell? ⟨B, 0, none⟩ = some (.pointer none)) (hf : w.frozen? ⟨B, 0, none⟩ = false) :
    Calls Tryd.prog 12 #[.iface 35 (.pointer (some e)), .iface 39 (.pointer (some ⟨B, 0, none⟩))] w fun ev w' => ev = .returned (.bool true) ∧ Below B w w' ∧ w'.cell? ⟨B, 0, none⟩ = some (.pointer (some e)) := by
  have hB : B < w.heap.size := by
    rcases Nat.lt_or_ge B w.heap.size with h | h
    · exact h
    · simp [World.cell?, Array.getElem?_eq_none h] at ht
  refine (as_hit e ⟨B, 0, none⟩ (.pointer none) w hg ht hf).mono ?_
  rintro ev w' ⟨rfl, rfl⟩
  refine ⟨rfl, ?_, ?_⟩
  · refine Below.setCell ?_ (p := ⟨B, 0, none⟩) (Nat.le_refl _) _
    exact ((((Below.refl B w).alloc (Nat.le_of_lt hB) _).alloc (by simp; omega) _).alloc (by simp; omega) _).alloc (by simp; omega) _
  · refine World.cell?_setCell_same' _ _ _ ?_
    rw [World.cell?_alloc_lt _ _ ⟨B, 0, none⟩ (by simp; omega), World.cell?_alloc_lt _ _ ⟨B, 0, none⟩ (by simp; omega), World.cell?_alloc_lt _ _ ⟨B, 0, none⟩ (by simp; omega), World.cell?_alloc_lt _ _ ⟨B, 0, none⟩ hB, ht]
    rfl
theorem kind_any (p : Nat) (k : Int) (w : World) (hg : ErrT w) (hc : w.cell? ⟨p, 0, none⟩ = some (.int .i64 k)) :
    Calls Tryd.prog 7 #[.iface 35 (.pointer (some ⟨p, 0, none⟩))] w fun e w' => e = .returned (.int .i64 k) ∧ Below w.heap.size w w' := by
  have hp : p < w.heap.size := by
    rcases Nat.lt_or_ge p w.heap.size with h | h
    · exact h
    · simp [World.cell?, Array.getElem?_eq_none h] at hc
  have hb0 := (Below.refl w.heap.size w).alloc (Nat.le_refl _) (.cells #[.pointer none] 35)
  have hA := as_box ⟨p, 0, none⟩ w.heap.size (w.alloc (.cells #[.pointer none] 35)) (hg.below hb0) (by simp) (by simp)
  go_enter Tryd.func7, Tryd.ntmps7
  go_wp2_with (go_at_call 12; refine hA.mono ?_; rintro e w' ⟨rfl, hb, hl⟩; have hc' := ((hb0.trans hb).cell (p := ⟨p, 0, none⟩) hp).trans hc)
  go_ret
  exact ⟨rfl, hb0.trans hb⟩
theorem at_any (p : Nat) (k : Int) (w : World) (hg : ErrT w) (hc : w.cell? ⟨p, 1, none⟩ = some (.int .i64 k)) :
    Calls Tryd.prog 8 #[.iface 35 (.pointer (some ⟨p, 0, none⟩))] w fun e w' => e = .returned (.int .i64 k) ∧ Below w.heap.size w w' := by
  have hp : p < w.heap.size := by
    rcases Nat.lt_or_ge p w.heap.size with h | h
    · exact h
    · simp [World.cell?, Array.getElem?_eq_none h] at hc
  have hb0 := (Below.refl w.heap.size w).alloc (Nat.le_refl _) (.cells #[.pointer none] 35)
  have hA := as_box ⟨p, 0, none⟩ w.heap.size (w.alloc (.cells #[.pointer none] 35)) (hg.below hb0) (by simp) (by simp)
  go_enter Tryd.func8, Tryd.ntmps8
  go_wp2_with (go_at_call 12; refine hA.mono ?_; rintro e w' ⟨rfl, hb, hl⟩; have hc' := ((hb0.trans hb).cell (p := ⟨p, 1, none⟩) hp).trans hc)
  go_ret
  exact ⟨rfl, hb0.trans hb⟩
theorem has_of (p : Nat) (k : Int) (r : Bool) (w : World) (h : Calls Tryd.prog 13 #[.iface 35 (.pointer (some ⟨p, 0, none⟩)), .iface 26 (.int .i64 k)] w fun e w' => e = .returned (.bool r) ∧ w' = w) :
    Calls Tryd.prog 9 #[.iface 35 (.pointer (some ⟨p, 0, none⟩)), .int .i64 k] w fun e w' => e = .returned (.bool r) ∧ w' = w := by
  go_enter Tryd.func9, Tryd.ntmps9
  go_wp2_with (go_at_call 13; refine h.mono ?_; rintro e w' ⟨rfl, rfl⟩)
  go_ret
  exact ⟨rfl, rfl⟩
end Go.Proofs.YtaihimaopedicaaDoor
