/- The walk of the laws' speaks. No conditions. -/
import Derived.Test.YtaihimaopedicaaDoorSm
import Derived.Test.YtaihimaopedicaaDoorCh
namespace Go.Proofs.YtaihimaopedicaaDoor
open Go.RowKit

theorem Sl.lits (k : IntKind) (w : World) (t : TypeId) (l : List Int) (cs : Array Value) (h : cs = (l.map (Value.int k)).toArray) : Sl (w.alloc (.cells cs t)) (w.heap.size + 1) (some ⟨w.heap.size, 0, none⟩) (l.map (Value.int k)) := by
  subst h
  have := Sl.lit w t (l.map (Value.int k)).toArray
  simpa using this
theorem BytesOK.mk {l : List Int} (h : ∀ n ∈ l, 0 ≤ n ∧ n < 256) : BytesOK l := fun i hi => h _ (by simp [hi])

set_option maxHeartbeats 1000000 in
theorem speaks_any (w : World) : Calls Tryd.prog 4 #[] w (RetV w (.bool true)) := by
  have HL := Lib.hid (Sl.lits .u8 w 5 [226, 130, 97] #[.int .u8 226, .int .u8 130, .int .u8 97] rfl)
  have HB : Hid (BytesOK [226, 130, 97]) := BytesOK.mk (by decide)
  have HQ := Lib.hid (show chars [226, 130, 97] = [65533, 97] by decide)
  have HB2 : Hid (BytesOK [237, 160, 128]) := BytesOK.mk (by decide)
  have HQ2 := Lib.hid (show chars [237, 160, 128] = [65533, 65533, 65533] by decide)
  go_enter Tryd.func4, Tryd.ntmps4
  go_wp2_with fail
  refine (chars_any _ _ _ _ _ _ (Nat.le_of_eq (by simp)) HB.out rfl (Nat.le_refl _) (by decide) HL.out).mono ?_
  rintro e w1 ⟨a1, c1, rfl, hc1, hs1, hb1⟩
  rw [HQ.out] at hs1 hc1 ⊢
  have hb1' : Below w.heap.size w w1 := ((Below.refl _ w).alloc (Nat.le_refl _) _).trans (hb1.mono (by simp))
  clear HL
  go_wp2_with fail
  refine (same_any _ _ _ _ _ _ _ _ _ [65533, 97] [65533, 97] rfl rfl (by decide) (by decide) (hs1.alloc (Nat.le_refl _) _) (Sl.lits .i64 w1 3 [65533, 97] _ rfl)).mono ?_
  rintro e w2 ⟨rfl, hb2⟩
  have hb2' : Below w.heap.size w w2 := (hb1'.alloc hb1'.size _).trans (hb2.mono (by have := hb1'.size; simp; omega))
  clear hb1 hb2 hs1
  have HL2 := Lib.hid (Sl.lits .u8 w2 5 [237, 160, 128] #[.int .u8 237, .int .u8 160, .int .u8 128] rfl)
  have hd := Lib.hid (show decide (([65533, 97] : List Int) = [65533, 97]) = true by decide)
  rw [hd.out]
  go_wp2_with fail
  refine (chars_any _ _ _ _ _ _ (Nat.le_of_eq (by simp)) HB2.out rfl (Nat.le_refl _) (by decide) HL2.out).mono ?_
  rintro e w3 ⟨a3, c3, rfl, hc3, hs3, hb3⟩
  rw [HQ2.out] at hs3 hc3 ⊢
  have hb3' : Below w.heap.size w w3 := (hb2'.alloc hb2'.size _).trans (hb3.mono (by have := hb2'.size; simp; omega))
  clear HL2
  go_wp2_with fail
  refine (same_any _ _ _ _ _ _ _ _ _ [65533, 65533, 65533] [65533, 65533, 65533] rfl rfl (by decide) (by decide) (hs3.alloc (Nat.le_refl _) _) (Sl.lits .i64 w3 3 [65533, 65533, 65533] _ rfl)).mono ?_
  rintro e w4 ⟨rfl, hb4⟩
  have hb4' : Below w.heap.size w w4 := (hb3'.alloc hb3'.size _).trans (hb4.mono (by have := hb3'.size; simp; omega))
  have hd2 := Lib.hid (show decide (([65533, 65533, 65533] : List Int) = [65533, 65533, 65533]) = true by decide)
  rw [hd2.out]
  go_wp2_with fail
  go_ret
  exact ⟨rfl, hb4'⟩
end Go.Proofs.YtaihimaopedicaaDoor
