/- The walks of the reference's filled and begins. Conditions: a few bytes. -/
import Derived.Test.YtcogfddcdpgpkaaGreatDoorWh
import Derived.Test.YtcogfddcdpgpkaaGreatDoorCh
namespace Go.Proofs.YtcogfddcdpgpkaaGreatDoor
open Go.RowKit

def fillTo (zs : List Int) (c : Int) (size : Nat) : List Int := zs ++ List.replicate (size - zs.length) c

structure FilledRel (w : World) (zs : List Int) (z : Int) (size k : Nat) (v : Value) (wr : World) : Prop where
  le : zs.length + k ≤ size
  own : OwnL wr w.heap.size 5 .u8 v (zs ++ List.replicate k z)
  below : Below w.heap.size w wr

set_option maxHeartbeats 1000000 in
theorem filled_any (w : World) (B : Nat) (a : Option Addr) (n c : Nat) (zs : List Int) (z : Int) (size : Nat) (hB : B ≤ w.heap.size) (hn : n = zs.length) (h4 : zs.length ≤ size) (h5 : size ≤ 1000)
    (hs : Sl w B a (zs.map (Value.int .u8))) : Calls Tryz.prog 182 #[.slice a n c, .int .u8 z, .int .i64 size] w (RetL .u8 w (fillTo zs z size)) := by
  subst hn
  have hs0 := hs.alloc hB (.cells #[] 5)
  have ho0 := OwnL.nil (w.alloc (.cells #[] 5)) w.heap.size 5 .u8 (some ⟨w.heap.size, 0, none⟩)
  go_enter Tryz.func182, Tryz.ntmps182
  go_wp2_with (at_builtin; refine appL_sl _ rfl (.tmp 8) (.tmp 9) 74 rfl Tryz.eiBytes (by decide) w.heap.size .u8 _ [] rfl ho0 B a zs.length c zs rfl rfl hs0 (by simp) (by omega) (by simp) ?_; intro v w1 ho1 hg1 hb1)
  have HR : FilledRel w zs z size 0 v w1 := ⟨by omega, by simpa using ho1, ((Below.refl _ w).alloc (Nat.le_refl _) _).trans hb1⟩
  clear ho1 hg1 hb1 hs0 ho0
  go_loopw [7] (fun v wr => ∃ k a m c, v = .slice a m c ∧ m = zs.length + k ∧ FilledRel w zs z size k v wr) (fun v _ => size - lenV v)
  case atStart =>
    obtain ⟨a1, c1, hv, -, -⟩ := HR.own.form
    exact ⟨0, a1, _, c1, hv, by simp, HR⟩
  case round =>
    clear HR
    obtain ⟨k, a, m, c, rfl, rfl, hr⟩ := hrel
    have hle := hr.le
    by_cases hk : zs.length + k = size
    · have HQ : Hid (fillTo zs z size = zs ++ List.replicate k z) := by
        show _ = _
        rw [fillTo, ← hk, Nat.add_sub_cancel_left]
      have HO := hr.own
      have HB := Lib.hid hr.below
      clear hr hle
      subst hk
      go_wp2_with fail
      go_ret
      rw [HQ.out]
      exact RetL.of rfl HO HB.out
    · have hlt : zs.length + k < size := by omega
      have HO := hr.own
      have hwb := hr.below.size
      have HR := Lib.hid hr
      clear hr hk hle
      go_wp2_with (at_builtin; refine appL_one _ rfl (.tmp 15) (.tmp 17) 74 rfl Tryz.eiBytes (by decide) w.heap.size .u8 _ _ _ rfl HO rfl (by simp; omega) hwb ?_; intro v3 w3 ho3 hg3 hb3)
      have HN : FilledRel w zs z size (k + 1) v3 w3 := ⟨hlt, by rw [List.replicate_succ', ← List.append_assoc]; exact ho3, HR.out.below.trans hb3⟩
      clear HR HO ho3 hg3 hb3
      obtain ⟨a1, c1, hv, -, -⟩ := HN.own.form
      refine ⟨⟨k + 1, a1, _, c1, hv, by simp, HN⟩, ?_⟩
      rw [hv]
      simp only [lenV, List.length_append, List.length_replicate]
      omega

def rBegFrom (zs : List Int) : Nat → Bool
  | 0 => false
  | m + 1 => rWholeB (fillTo zs 128 (4 - m)) || (rWholeB (fillTo zs 191 (4 - m)) || rBegFrom zs m)

structure BegRel (w : World) (zs : List Int) (s : Nat) (wr : World) : Prop where
  below : Below w.heap.size w wr
  eq : rBegFrom zs (5 - s) = rBegFrom zs (4 - zs.length)

theorem fillTo_bytes {zs : List Int} {z : Int} {s : Nat} (hz : BytesOK zs) (h0 : 0 ≤ z) (h1 : z < 256) : BytesOK (fillTo zs z s) := by
  intro i hi
  unfold fillTo at *
  by_cases h : i < zs.length
  · have := hz i h
    simpa [List.getD_eq_getElem?_getD, List.getElem?_append_left h] using this
  · simp at hi
    have : (zs ++ List.replicate (s - zs.length) z).getD i 0 = z := by
      simp only [List.getD_eq_getElem?_getD, List.getElem?_append_right (by omega : zs.length ≤ i)]
      simp [show i - zs.length < s - zs.length by omega]
    rw [this]
    omega
theorem fillTo_length {zs : List Int} {z : Int} {s : Nat} (h : zs.length ≤ s) : (fillTo zs z s).length = s := by
  simp [fillTo]
  omega

set_option maxHeartbeats 1000000 in
theorem begins_any (w : World) (B : Nat) (a : Option Addr) (n c : Nat) (zs : List Int) (hB : B ≤ w.heap.size) (hz : BytesOK zs) (hn : n = zs.length) (h0 : 0 < zs.length) (h4 : zs.length ≤ 4)
    (hs : Sl w B a (zs.map (Value.int .u8))) : Calls Tryz.prog 158 #[.slice a n c] w (RetV w (.bool (rBegFrom zs (4 - zs.length)))) := by
  subst hn
  have HZ := Lib.hid hz
  clear hz
  go_enter Tryz.func158, Tryz.ntmps158
  go_wp2_with fail
  go_loopw [3] (fun i wr => ∃ s : Nat, i = .int .i64 s ∧ zs.length < s ∧ s ≤ 5 ∧ BegRel w zs s wr) (fun i _ => 5 - (intOf i).toNat)
  case atStart => exact ⟨zs.length + 1, by go_num, by omega, by omega, ⟨Below.refl _ _, by rw [Nat.sub_add_eq, Nat.sub_right_comm]⟩⟩
  case round =>
    obtain ⟨s, rfl, h1, h2, hr⟩ := hrel
    have HR := Lib.hid hr
    have hs1 := hs.below (hr.below.mono hB)
    have hB1 : B ≤ wr.heap.size := Nat.le_trans hB hr.below.size
    have hwb : w.heap.size ≤ wr.heap.size := hr.below.size
    clear hr hs
    by_cases h5 : s = 5
    · subst h5
      have HQ : Hid (rBegFrom zs (4 - zs.length) = false) := HR.out.eq.symm
      go_wp2_with fail
      go_ret
      exact ⟨by rw [HQ.out]; rfl, HR.out.below⟩
    · have hs4 : s ≤ 4 := by omega
      have HE : Hid (rBegFrom zs (4 - zs.length) = (rWholeB (fillTo zs 128 s) || (rWholeB (fillTo zs 191 s) || rBegFrom zs (4 - s)))) := by
        have := HR.out.eq
        rw [show 5 - s = (4 - s) + 1 by omega] at this
        rw [rBegFrom, show 4 - (4 - s) = s by omega] at this
        exact this.symm
      clear h5 h2
      go_wp2_with fail
      refine (filled_any _ B _ _ _ zs 128 s hB1 rfl (by omega) (by omega) hs1).mono ?_
      rintro e w2 ⟨a2, c2, rfl, hc2, hs2, hb2⟩
      have hs12 := hs1.below (hb2.mono hB1)
      have hB2 : B ≤ w2.heap.size := Nat.le_trans hB1 hb2.size
      go_wp2_with fail
      refine (whole_any _ _ _ _ _ _ (Nat.le_refl _) (fillTo_bytes (z := 128) (s := s) HZ.out (by omega) (by omega)) rfl (by rw [fillTo_length (by omega)]; omega) (by rw [fillTo_length (by omega)]; omega) hs2).mono ?_
      rintro e w3 ⟨rfl, hb3⟩
      have hs13 := hs12.below (hb3.mono hB2)
      have hB3 : B ≤ w3.heap.size := Nat.le_trans hB2 hb3.size
      have h13 : Below wr.heap.size wr w3 := hb2.trans (hb3.mono hb2.size)
      clear hs1 hs2 hs12 hb2 hb3 hc2
      cases hw1 : rWholeB (fillTo zs 128 s) with
      | true =>
        have HQ : Hid (rBegFrom zs (4 - zs.length) = true) := by show _ = _; rw [HE.out, hw1, Bool.true_or]
        go_wp2_with fail
        go_ret
        exact ⟨by rw [HQ.out]; rfl, HR.out.below.trans (h13.mono hwb)⟩
      | false =>
        go_wp2_with fail
        refine (filled_any _ B _ _ _ zs 191 s hB3 rfl (by omega) (by omega) hs13).mono ?_
        rintro e w4 ⟨a4, c4, rfl, hc4, hs4', hb4⟩
        go_wp2_with fail
        refine (whole_any _ _ _ _ _ _ (Nat.le_refl _) (fillTo_bytes (z := 191) (s := s) HZ.out (by omega) (by omega)) rfl (by rw [fillTo_length (by omega)]; omega) (by rw [fillTo_length (by omega)]; omega) hs4').mono ?_
        rintro e w5 ⟨rfl, hb5⟩
        have h15 : Below wr.heap.size wr w5 := h13.trans ((hb4.mono h13.size).trans (hb5.mono (Nat.le_trans h13.size hb4.size)))
        clear hs4' hb4 hb5 hc4 hs13 h13
        cases hw2 : rWholeB (fillTo zs 191 s) with
        | true =>
          have HQ : Hid (rBegFrom zs (4 - zs.length) = true) := by show _ = _; rw [HE.out, hw1, hw2]; rfl
          clear HE
          go_wp2_with fail
          go_ret
          exact ⟨by rw [HQ.out]; rfl, HR.out.below.trans (h15.mono hwb)⟩
        | false =>
          have HN : BegRel w zs (s + 1) w5 := ⟨HR.out.below.trans (h15.mono hwb), by rw [HE.out, hw1, hw2, show 5 - (s + 1) = 4 - s by omega]; rfl⟩
          clear HE hw1 hw2 HR
          go_wp2_with fail
          refine ⟨⟨s + 1, by go_num, by omega, by omega, HN⟩, ?_⟩
          simp [intOf]
          omega
end Go.Proofs.YtcogfddcdpgpkaaGreatDoor
