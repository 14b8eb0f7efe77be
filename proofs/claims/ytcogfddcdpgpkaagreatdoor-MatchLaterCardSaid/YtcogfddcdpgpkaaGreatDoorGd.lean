/- The walk of the reference's Good. Conditions: the slice reads as bytes. -/
import Derived.Test.YtcogfddcdpgpkaaGreatDoorFst
namespace Go.Proofs.YtcogfddcdpgpkaaGreatDoor
open Go.RowKit

def rGoodN : Nat → List Int → Bool
  | 0, _ => true
  | _ + 1, [] => true
  | n + 1, z :: r => if z = 0 ∨ rWholeB ((z :: r).take (rFirst (z :: r)).2) = false ∨ (rFirst (z :: r)).1 = 0 then false else rGoodN n ((z :: r).drop (rFirst (z :: r)).2)
def rGood (zs : List Int) : Bool := rGoodN zs.length zs

theorem rF1_size {r : List Int} {x : Int × Nat} : ∀ {m : Nat}, m ≤ 4 → rF1 r m = some x → 1 ≤ x.2 ∧ x.2 ≤ 4 ∧ x.2 ≤ r.length
  | 0, _, h => by simp [rF1] at h
  | m + 1, hm, h => by
    unfold rF1 at h
    have ih := @rF1_size r x m (by omega)
    split at h
    · split at h
      · injection h with h
        subst h
        simp only
        omega
      · by_cases h0 : m = 0
        · subst h0
          simp [rF1] at h
        · exact ih h
    · cases h
theorem rF2_size {r : List Int} : ∀ m : Nat, m ≤ 2 → 0 < r.length → 1 ≤ rF2 r m ∧ rF2 r m ≤ 4 ∧ rF2 r m ≤ r.length
  | 0, _, h => by simp [rF2]; omega
  | m + 1, hm, h => by
    unfold rF2
    split
    · omega
    · exact rF2_size m (by omega) h
theorem rFirst_size {r : List Int} (h : 0 < r.length) : 1 ≤ (rFirst r).2 ∧ (rFirst r).2 ≤ 4 ∧ (rFirst r).2 ≤ r.length := by
  unfold rFirst
  cases h1 : rF1 r 4 with
  | some x => exact rF1_size (Nat.le_refl _) h1
  | none => exact rF2_size 2 (Nat.le_refl _) h
theorem rGoodN_fuel : ∀ (n m : Nat) (zs : List Int), zs.length ≤ n → zs.length ≤ m → rGoodN n zs = rGoodN m zs
  | 0, 0, _, _, _ => rfl
  | 0, m + 1, [], _, _ => rfl
  | n + 1, 0, [], _, _ => rfl
  | 0, _ + 1, _ :: _, h, _ => absurd h (by simp)
  | _ + 1, 0, _ :: _, _, h => absurd h (by simp)
  | n + 1, m + 1, [], _, _ => rfl
  | n + 1, m + 1, z :: zs, h1, h2 => by
    simp only [rGoodN]
    have := rFirst_size (r := z :: zs) (by simp)
    simp only [List.length_cons] at h1 h2
    rw [rGoodN_fuel n m _ (by simp only [List.length_drop, List.length_cons]; omega) (by simp only [List.length_drop, List.length_cons]; omega)]
theorem rGood_nil : rGood [] = true := rfl
theorem rGood_of {zs : List Int} (h : 0 < zs.length) : rGood zs = if zs.getD 0 0 = 0 ∨ rWholeB (zs.take (rFirst zs).2) = false ∨ (rFirst zs).1 = 0 then false else rGood (zs.drop (rFirst zs).2) := by
  cases zs with
  | nil => simp at h
  | cons z r =>
    have := rFirst_size (r := z :: r) (by simp)
    rw [rGood, List.length_cons, rGoodN, rGood, rGoodN_fuel r.length _ ((z :: r).drop (rFirst (z :: r)).2) (by simp only [List.length_drop, List.length_cons]; omega) (Nat.le_refl _)]
    rfl

set_option maxHeartbeats 1000000 in
theorem rGood_any (w : World) (B : Nat) (a : Option Addr) (n c : Nat) (zs : List Int) (hB : B ≤ w.heap.size) (hz : BytesOK zs) (hn : n = zs.length) (hc : n ≤ c) (hm : zs.length ≤ 140737488355328)
    (hs : Sl w B a (zs.map (Value.int .u8))) : Calls Tryz.prog 95 #[.slice a n c] w (RetV w (.bool (rGood zs))) := by
  subst hn
  have HZ := Lib.hid hz
  have hs0 := Lib.hid hs
  clear hz hs
  go_enter Tryz.func95, Tryz.ntmps95
  go_wp2_with fail
  go_loopw [3, 4, 5] (fun i _ _ wr => ∃ k : Nat, i = .int .i64 (k : Nat) ∧ k ≤ zs.length ∧ Hid (rGood (zs.drop k) = rGood zs) ∧ Below w.heap.size w wr) (fun i _ _ _ => zs.length - (intOf i).toNat)
  case atStart => exact ⟨0, by go_num, by omega, rfl, Below.refl _ _⟩
  case round =>
    obtain ⟨k, rfl, hk, HR, hb⟩ := hrel
    have hs1 := hs0.out.below (hb.mono hB)
    have hB1 : B ≤ wr.heap.size := Nat.le_trans hB hb.size
    by_cases hlt : k < zs.length
    · obtain ⟨b, off, rfl, hbB, hcell⟩ := hs1.int hlt
      have HC := Lib.hid (hcell k hlt)
      clear hcell
      have hpos : 0 < (zs.drop k).length := by simp; omega
      have HS := Lib.hid (rFirst_size hpos)
      have HE := Lib.hid (HR.out.symm.trans (rGood_of hpos))
      have hz0 : Hid ((zs.drop k).getD 0 0 = zs.getD k 0) := by show _ = _; simp [List.getD_eq_getElem?_getD]
      clear hpos HR
      go_wp2_with fail
      refine (rFirst_any _ B _ _ _ zs k hB1 HZ.out rfl hc hlt hm hs1).mono ?_
      rintro e w2 ⟨rfl, hb2⟩
      have c0 := ((below_cells hb2).1 b (off + k) (by omega)).trans HC.out
      have hs2 := hs1.below (hb2.mono hB1)
      have hB2 : B ≤ w2.heap.size := Nat.le_trans hB1 hb2.size
      have hb3 := hb.trans (hb2.mono hb.size)
      clear hs1 hb2 HC
      rw [hz0.out] at HE
      obtain ⟨z, HZK⟩ : ∃ z, Hid (zs.getD k 0 = z) := ⟨_, rfl⟩
      rw [HZK.out] at c0 HE
      have hzk := HZ.out k hlt
      rw [HZK.out] at hzk
      obtain ⟨zl, zu⟩ := hzk
      have hHS := HS.out
      have hLen : (zs.drop k).length = zs.length - k := by simp
      rw [hLen] at hHS
      have HL : Hid (((zs.drop k).take (rFirst (zs.drop k)).2).length = (rFirst (zs.drop k)).2) := by show _ = _; simp; omega
      have HOK := Lib.hid (((HZ.out).drop k).take (rFirst (zs.drop k)).2)
      have hs3 := hs2.midI k (rFirst (zs.drop k)).2
      simp only [Option.map_some, addr_add] at hs3
      have HD : Hid (List.drop (rFirst (List.drop k zs)).2 (List.drop k zs) = List.drop (k + (rFirst (List.drop k zs)).2) zs) := by show _ = _; rw [List.drop_drop]
      rw [HD.out] at HE
      generalize (zs.drop k).take (rFirst (zs.drop k)).2 = r at *
      generalize (rFirst (zs.drop k)).1 = x at *
      generalize (rFirst (zs.drop k)).2 = y at *
      clear HS HD hz0 hs0
      obtain ⟨y1, y2, y3⟩ := hHS
      clear hLen
      by_cases hz : z = 0
      · subst hz
        have HQ : Hid (rGood zs = false) := by show _ = _; rw [HE.out, if_pos (.inl rfl)]
        clear HE
        go_wp2_with fail
        go_ret
        exact ⟨by rw [HQ.out]; rfl, hb3⟩
      · have hzb : (z == 0) = false := by simp [hz]
        have HNZ := Lib.hid hz
        clear hz
        go_wp2_with fail
        refine (whole_any _ B _ _ _ r hB2 HOK.out (HL.out.trans (by omega)).symm (by rw [HL.out]; omega) (by rw [HL.out]; omega) hs3).mono ?_
        rintro e w4 ⟨rfl, hb4⟩
        have hb5 := hb3.trans (hb4.mono hb3.size)
        clear hb4 hs3 hs2
        cases hw : rWholeB r with
        | false =>
          have HQ : Hid (rGood zs = false) := by show _ = _; rw [HE.out, if_pos (.inr (.inl hw))]
          clear HE hw
          go_wp2_with fail
          go_ret
          exact ⟨by rw [HQ.out]; rfl, hb5⟩
        | true =>
          by_cases hx : x = 0
          · subst hx
            have HQ : Hid (rGood zs = false) := by show _ = _; rw [HE.out, if_pos (.inr (.inr rfl))]
            clear HE hw
            go_wp2_with fail
            go_ret
            exact ⟨by rw [HQ.out]; rfl, hb5⟩
          · have hxb : (x == 0) = false := by simp [hx]
            have HN : Hid (rGood (zs.drop (k + y)) = rGood zs) := by
              show _ = _
              rw [HE.out, if_neg]
              rintro (h | h | h)
              · exact HNZ.out h
              · rw [hw] at h
                cases h
              · exact hx h
            clear HE hw hx HNZ HOK
            go_wp2_with fail
            refine ⟨⟨k + y, by go_num, by omega, HN, hb5⟩, ?_⟩
            simp [intOf]
            omega
    · have hke : k = zs.length := by omega
      subst hke
      have HQ : Hid (rGood zs = true) := by
        have := HR.out
        rw [List.drop_length] at this
        exact this.symm
      go_wp2_with fail
      go_ret
      exact ⟨by rw [HQ.out]; rfl, hb⟩
end Go.Proofs.YtcogfddcdpgpkaaGreatDoor
