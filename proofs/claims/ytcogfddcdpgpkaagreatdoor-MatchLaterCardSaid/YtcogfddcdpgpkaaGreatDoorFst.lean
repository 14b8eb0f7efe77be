/- The walks of the reference's First and Good. Conditions: the slice reads as bytes. -/
import Derived.Test.YtcogfddcdpgpkaaGreatDoorFl
namespace Go.Proofs.YtcogfddcdpgpkaaGreatDoor
open Go.RowKit

/-- A part of a slice, as the model spells its address where it is not at the capacity's end. -/
theorem Sl.mid {w : World} {B : Nat} {a : Option Addr} {xs : List Value} (h : Sl w B a xs) (k n : Nat) : Sl w B (a.map (fun x => x.add k)) ((xs.drop k).take n) := fun hne => by
  have hlt : k < xs.length := by
    apply Classical.byContradiction
    intro hge
    rw [List.drop_eq_nil_of_le (by omega)] at hne
    simp at hne
  obtain ⟨b, off, rfl, hb, hcell⟩ := h.open_ hlt
  refine ⟨b, off + k, by simp [Addr.add], hb, fun i hi => ?_⟩
  simp at hi
  rw [Nat.add_assoc, hcell (k + i) (by omega)]
  simp
theorem Sl.midI {w : World} {B : Nat} {a : Option Addr} {k : IntKind} {zs : List Int} (h : Sl w B a (zs.map (Value.int k))) (j n : Nat) : Sl w B (a.map (fun x => x.add j)) (((zs.drop j).take n).map (Value.int k)) := by
  have := h.mid j n
  rwa [← List.map_drop, ← List.map_take] at this
theorem BytesOK.take {zs : List Int} (h : BytesOK zs) (k : Nat) : BytesOK (zs.take k) := fun i hi => by
  simp only [List.length_take] at hi
  have := h i (by omega)
  simpa [List.getD_eq_getElem?_getD, List.getElem?_take, show i < k by omega] using this
/-- The first of so many sizes at which bytes are whole. -/
def rF1 (r : List Int) : Nat → Option (Int × Nat)
  | 0 => none
  | m + 1 => if 4 - m ≤ r.length then (if rWholeB (r.take (4 - m)) then some (rTold (r.take (4 - m)), 4 - m) else rF1 r m) else none
def rBeg (r : List Int) : Bool := rBegFrom r (4 - r.length)
def rF2 (r : List Int) : Nat → Nat
  | 0 => 1
  | m + 1 => if m + 2 ≤ r.length ∧ rBeg (r.take (m + 2)) = true then m + 2 else rF2 r m
def rFirst (r : List Int) : Int × Nat := match rF1 r 4 with
  | some x => x
  | none => (65533, rF2 r 2)

def FirstIs (w : World) (x : Int × Nat) (e : Ending) (w' : World) : Prop := e = .returned (.tuple #[.int .i64 x.1, .int .i64 (x.2 : Nat)]) ∧ Below w.heap.size w w'
theorem FirstIs.mk' {w w' : World} {x : Int × Nat} {y : Int} {k : Nat} {e : Ending} (h : x = (y, k)) (he : e = .returned (.tuple #[.int .i64 y, .int .i64 (k : Nat)])) (hb : Below w.heap.size w w') : FirstIs w x e w' :=
  ⟨by rw [h]; exact he, hb⟩

set_option maxHeartbeats 1000000 in
theorem rFirst_any (w : World) (B : Nat) (a : Option Addr) (n c : Nat) (zs : List Int) (at_ : Nat) (hB : B ≤ w.heap.size) (hz : BytesOK zs) (hn : n = zs.length) (hc : n ≤ c) (hat : at_ < zs.length) (hm : zs.length ≤ 140737488355328)
    (hs : Sl w B a (zs.map (Value.int .u8))) : Calls Tryz.prog 125 #[.slice a n c, .int .i64 at_] w (FirstIs w (rFirst (zs.drop at_))) := by
  subst hn
  have HZ := Lib.hid hz
  have hs0 := Lib.hid hs
  clear hz
  go_enter Tryz.func125, Tryz.ntmps125
  go_wp2_with fail
  go_loopw [6] (fun i wr => ∃ s : Nat, i = .int .i64 s ∧ 1 ≤ s ∧ s ≤ 5 ∧ Hid (rF1 (zs.drop at_) (5 - s) = rF1 (zs.drop at_) 4) ∧ Below w.heap.size w wr) (fun i _ => 5 - (intOf i).toNat)
  case atStart => exact ⟨1, by go_num, by omega, by omega, rfl, Below.refl _ _⟩
  case round =>
    obtain ⟨s, rfl, h1, h2, HR, hb⟩ := hrel
    have hs1 := hs.below (hb.mono hB)
    have hB1 : B ≤ wr.heap.size := Nat.le_trans hB hb.size
    clear hs
    by_cases hin : s ≤ 4 ∧ at_ + s ≤ zs.length
    · obtain ⟨i1, i2⟩ := hin
      have i3 : (at_ : Int) + (s : Int) ≤ (zs.length : Int) := by omega
      have hL : ((zs.drop at_).take s).length = s := by simp; omega
      have HL := Lib.hid hL
      have HOK := ((HZ.out).drop at_).take s
      have hHE : rF1 (zs.drop at_) (5 - s) = if rWholeB ((zs.drop at_).take s) then some (rTold ((zs.drop at_).take s), s) else rF1 (zs.drop at_) (4 - s) := by
        rw [show 5 - s = (4 - s) + 1 by omega, rF1, show 4 - (4 - s) = s by omega, if_pos (by simp; omega)]
      have HE := Lib.hid (HR.out.symm.trans hHE)
      have hs2 := hs1.midI at_ s
      generalize (zs.drop at_).take s = r at *
      clear hHE
      go_wp2_with fail
      refine (whole_any _ B _ _ _ r hB1 HOK HL.out.symm (by omega) (by omega) hs2).mono ?_
      rintro e w2 ⟨rfl, hb2⟩
      have hs3 := hs2.below (hb2.mono hB1)
      have hB2 : B ≤ w2.heap.size := Nat.le_trans hB1 hb2.size
      have hb3 := hb.trans (hb2.mono hb.size)
      cases hw : rWholeB r with
      | true =>
        have HQ : Hid (rFirst (zs.drop at_) = (rTold r, s)) := by
          show _ = _
          rw [rFirst, HE.out, hw]
          rfl
        clear HE hs1 hs2 hb hb2
        go_wp2_with fail
        refine (told_any _ B _ _ _ r hB2 HOK HL.out.symm (by omega) (by omega) hs3).mono ?_
        rintro e w4 ⟨rfl, hb4⟩
        go_wp2_with fail
        go_ret2
        exact FirstIs.mk' HQ.out rfl (hb3.trans (hb4.mono hb3.size))
      | false =>
        have HN : Hid (rF1 (zs.drop at_) (5 - (s + 1)) = rF1 (zs.drop at_) 4) := by
          show _ = _
          rw [HE.out, hw, show 5 - (s + 1) = 4 - s by omega]
          rfl
        clear HE hs1 hs2 hb hb2 hw HOK hL HL
        go_wp2_with fail
        refine ⟨⟨s + 1, by go_num, by omega, by omega, HN, hb3⟩, ?_⟩
        simp [intOf]
        omega
    · have HF : Hid (rF1 (zs.drop at_) 4 = none) := by
        show _ = _
        rw [← HR.out]
        by_cases h5 : s = 5
        · subst h5
          rfl
        · rw [show 5 - s = (4 - s) + 1 by omega, rF1, show 4 - (4 - s) = s by omega, if_neg (by simp; omega)]
      clear HR
      rcases (by omega : s = 5 ∨ (s ≤ 4 ∧ zs.length < at_ + s)) with rfl | ⟨i1, i2⟩
      all_goals clear h1 h2 hin
      all_goals go_wp2_with fail
      all_goals (
        go_loopw [4, 5, 7] (fun _ _ i wr => ∃ m : Nat, i = .int .i64 ((m : Int) + 1) ∧ m ≤ 2 ∧ Hid (rF2 (zs.drop at_) m = rF2 (zs.drop at_) 2) ∧ Below w.heap.size w wr) (fun _ _ i _ => (intOf i).toNat)
        case atStart => exact ⟨2, by go_num, by omega, rfl, hb⟩
        case round =>
          clear hb hs1 hB1
          obtain ⟨m, rfl, g2, HR, hb⟩ := hrel
          have hs1 := hs0.out.below (hb.mono hB)
          have hB1 : B ≤ wr.heap.size := Nat.le_trans hB hb.size
          cases m with
          | zero =>
            have HQ : Hid (rFirst (zs.drop at_) = (65533, 1)) := by
              show _ = _
              rw [rFirst, HF.out]
              show (65533, rF2 (zs.drop at_) 2) = _
              rw [← HR.out]
              rfl
            clear hs1 HR
            go_wp2_with fail
            go_ret2
            exact FirstIs.mk' HQ.out rfl hb
          | succ m =>
            by_cases hin : at_ + (m + 2) ≤ zs.length
            · have i3 : (at_ : Int) + ((m : Int) + 1 + 1) ≤ (zs.length : Int) := by omega
              have hL : ((zs.drop at_).take (m + 2)).length = m + 2 := by simp; omega
              have HL := Lib.hid hL
              have HOK := ((HZ.out).drop at_).take (m + 2)
              have hHE : rF2 (zs.drop at_) (m + 1) = if rBeg ((zs.drop at_).take (m + 2)) = true then m + 2 else rF2 (zs.drop at_) m := by
                rw [rF2]
                have : m + 2 ≤ (zs.drop at_).length := by simp; omega
                simp only [this, true_and]
              have HE := Lib.hid (HR.out.symm.trans hHE)
              have hs2 := hs1.midI at_ (m + 2)
              generalize (zs.drop at_).take (m + 2) = r at *
              clear hHE HR
              go_wp2_with fail
              refine (begins_any _ B _ _ _ r hB1 HOK HL.out.symm (by omega) (by omega) hs2).mono ?_
              rintro e w2 ⟨rfl, hb2⟩
              have hb3 := hb.trans (hb2.mono hb.size)
              have HBB : Hid (rBegFrom r (4 - r.length) = rBeg r) := rfl
              rw [HBB.out]
              cases hw : rBeg r with
              | true =>
                have HQ : Hid (rFirst (zs.drop at_) = (65533, m + 2)) := by
                  show _ = _
                  rw [rFirst, HF.out]
                  show (65533, rF2 (zs.drop at_) 2) = _
                  rw [HE.out, if_pos hw]
                clear HE hs1 hs2 hb hb2 hw HBB hL HL
                go_wp2_with fail
                go_ret2
                exact FirstIs.mk' HQ.out (by go_num) hb3
              | false =>
                have HN : Hid (rF2 (zs.drop at_) m = rF2 (zs.drop at_) 2) := by
                  show _ = _
                  rw [HE.out, if_neg (by simp [hw])]
                clear HE hs1 hs2 hb hb2 hw HBB hL HL
                go_wp2_with fail
                refine ⟨?_, ?_⟩
                · first | exact ⟨m, by go_num, by omega, HN, hb3⟩ | ((repeat apply Exists.intro); exact ⟨⟨m, by go_num, by omega, HN, hb3⟩, rfl⟩)
                simp [intOf]
                omega
            · have HN : Hid (rF2 (zs.drop at_) m = rF2 (zs.drop at_) 2) := by
                show _ = _
                rw [← HR.out, rF2, if_neg (by simp; omega)]
              have i3 : ¬ (at_ : Int) + ((m : Int) + 1 + 1) ≤ (zs.length : Int) := by omega
              clear hs1 HR
              go_wp2_with fail
              refine ⟨?_, ?_⟩
              · first | exact ⟨m, by go_num, by omega, HN, hb⟩ | ((repeat apply Exists.intro); exact ⟨⟨m, by go_num, by omega, HN, hb⟩, rfl⟩)
              simp [intOf]
              omega)
end Go.Proofs.YtcogfddcdpgpkaaGreatDoor
