/- The walk of the references' Same. Conditions: both slices read as integers. -/
import Derived.Test.YtaihimaopedicaaDoorOwn
import Derived.Test.YtaihimaopedicaaDoorChecked
import Derived.Deep.QuietTactic
import Derived.BigQuiet
namespace Go.Proofs.YtaihimaopedicaaDoor
open Go.RowKit

theorem same_step {xs ys : List Int} {k : Nat} (hl : xs.length = ys.length) (hk : k < xs.length) (h : xs.take k = ys.take k) (he : xs.getD k 0 = ys.getD k 0) : xs.take (k + 1) = ys.take (k + 1) := by
  rw [List.take_succ_eq_append_getElem hk, List.take_succ_eq_append_getElem (by omega), h]
  simp [hk, hl ▸ hk] at he
  rw [he]
theorem same_stop {xs ys : List Int} {k : Nat} (hne : xs.getD k 0 ≠ ys.getD k 0) : (decide (xs = ys)) = false := by
  simp
  intro h
  exact hne (by rw [h])

structure SameRel (w : World) (xs ys : List Int) (k : Nat) (wr : World) : Prop where
  qt : Qt w wr
  eq : xs.take k = ys.take k
theorem SameRel.done {w wr : World} {xs ys : List Int} (h : SameRel w xs ys xs.length wr) (hl : xs.length = ys.length) : decide (xs = ys) = true := by
  have h2 := h.eq
  rw [List.take_length, hl, List.take_length] at h2
  simp [h2]

set_option maxHeartbeats 400000 in
theorem same_any (w : World) (B B' : Nat) (a a' : Option Addr) (n n' c c' : Nat) (xs ys : List Int) (hn : n = xs.length) (hn' : n' = ys.length) (hm : xs.length ≤ 1099511627776) (_hm' : ys.length ≤ 1099511627776)
    (hs : Sl w B a (xs.map (Value.int .i64))) (hs' : Sl w B' a' (ys.map (Value.int .i64))) : Calls Tryd.prog 10 #[.slice a n c, .slice a' n' c'] w (RetV w (.bool (decide (xs = ys)))) := by
  subst hn hn'
  by_cases hl : xs.length = ys.length
  · have hl' : ((xs.length : Int) == (ys.length : Int)) = true := by simp [hl]
    have HL := Lib.hid hl
    clear hl
    have HS := Lib.hid hs
    have HS' := Lib.hid hs'
    clear hs hs'
    go_enter Tryd.func10, Tryd.ntmps10
    go_wp2_with fail
    go_loopw [5] (fun i wr => ∃ k : Nat, k ≤ xs.length ∧ i = .int .i64 k ∧ SameRel w xs ys k wr) (fun i _ => xs.length - (intOf i).toNat)
    case atStart => exact ⟨0, Nat.zero_le _, rfl, ⟨Qt.refl w, by simp⟩⟩
    case round =>
      obtain ⟨k, hk, rfl, hr⟩ := hrel
      by_cases hlt : k < xs.length
      · obtain ⟨b, off, rfl, hb, hcell⟩ := HS.out.int hlt
        obtain ⟨b', off', rfl, hb', hcell'⟩ := HS'.out.int (HL.out ▸ hlt)
        have c1 := (hr.1.cell _).trans (hcell k hlt)
        have c2 := (hr.1.cell _).trans (hcell' k (HL.out ▸ hlt))
        clear hcell hcell'
        have hlt' : k < ys.length := HL.out ▸ hlt
        obtain ⟨x, HX⟩ : ∃ z, Hid (xs.getD k 0 = z) := ⟨_, rfl⟩
        obtain ⟨y, HY⟩ : ∃ z, Hid (ys.getD k 0 = z) := ⟨_, rfl⟩
        rw [HX.out] at c1
        rw [HY.out] at c2
        have HR := Lib.hid hr
        clear hr
        have i1 : (k : Int) < (xs.length : Int) := by omega
        have i2 : (k : Int) < (ys.length : Int) := by omega
        by_cases hxy : x = y
        · have hb1 : (x == y) = true := by simp [hxy]
          have hb2 : (x != y) = false := by simp [hxy]
          have HXY := Lib.hid hxy
          clear hxy
          go_wp2_with fail
          go_quiet (fail)
          go_wp2_with fail
          refine ⟨⟨k + 1, hlt, by go_num, HR.out.qt.drewN nq, same_step HL.out hlt HR.out.eq (by rw [HX.out, HY.out, HXY.out])⟩, ?_⟩
          simp [intOf]
          omega
        · have hb1 : (x == y) = false := by simp [hxy]
          have hb2 : (x != y) = true := by simp [hxy]
          have HXY := Lib.hid hxy
          clear hxy
          go_wp2_with fail
          go_quiet (fail)
          go_wp2_with fail
          go_ret
          exact ⟨by rw [same_stop (k := k) (by rw [HX.out, HY.out]; exact HXY.out)]; rfl, below_drewN HR.out.qt.below nq⟩
      · have hke : k = xs.length := by omega
        subst hke
        have HQ : Hid (decide (xs = ys) = true) := hr.done HL.out
        have HB : Hid (Below w.heap.size w wr) := hr.1.below
        clear hr
        go_wp2_with fail
        go_ret
        exact ⟨by rw [HQ.out]; rfl, HB.out⟩
  · have hl' : ((xs.length : Int) == (ys.length : Int)) = false := by simp; omega
    have HQ : Hid (decide (xs = ys) = false) := by
      show _ = _
      simp
      intro h
      exact hl (by rw [h])
    clear hl
    go_enter Tryd.func10, Tryd.ntmps10
    go_wp2_with fail
    go_ret
    exact ⟨by rw [HQ.out]; rfl, Below.refl _ _⟩
end Go.Proofs.YtaihimaopedicaaDoor
