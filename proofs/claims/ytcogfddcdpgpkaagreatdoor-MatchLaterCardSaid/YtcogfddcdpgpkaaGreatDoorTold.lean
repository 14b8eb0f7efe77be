/- The walk of the reference's told. Conditions: at most four bytes. -/
import Derived.Test.YtcogfddcdpgpkaaGreatDoorRef
import Derived.Handy
namespace Go.Proofs.YtcogfddcdpgpkaaGreatDoor
open Go.RowKit

/-- What up to four bytes would tell. -/
def rHead : Nat → Int | 2 => 192 | 3 => 224 | 4 => 240 | _ => 0
def rFold : Int → List Int → Int
  | n, [] => n
  | n, z :: r => rFold (64 * n + z - 128) r
def rTold (zs : List Int) : Int := match zs with | [] => 0 | z :: r => rFold (z - rHead (r.length + 1)) r

set_option maxHeartbeats 1000000 in
theorem told_any (w : World) (B : Nat) (a : Option Addr) (n c : Nat) (zs : List Int) (hB : B ≤ w.heap.size) (hz : ∀ i, i < zs.length → 0 ≤ zs.getD i 0 ∧ zs.getD i 0 < 256) (hn : n = zs.length) (h0 : 0 < zs.length) (h4 : zs.length ≤ 4)
    (hs : Sl w B a (zs.map (Value.int .u8))) : Calls Tryz.prog 157 #[.slice a n c] w (RetV w (.int .i64 (rTold zs))) := by
  subst hn
  obtain ⟨b, off, rfl, hb, hcell⟩ := hs.int h0
  have hbw : b < w.heap.size := by omega
  rcases (by omega : zs.length = 1 ∨ zs.length = 2 ∨ zs.length = 3 ∨ zs.length = 4) with hl | hl | hl | hl
  · match zs, hl with
    | [z0], _ =>
      have c0 := hcell 0 (by simp)
      have b0 := hz 0 (by simp)
      simp at c0 b0
      obtain ⟨l0, u0⟩ := b0
      clear hcell hz hs hl
      go_enter Tryz.func157, Tryz.ntmps157
      go_wp2_with fail
      go_quiet (fail)
      go_wp2_with fail
      refine wp_loop_rounds 1 ?_
      repeat any_goals (rw [rounds_succ]; go_wp2_with fail)
      go_ret
      exact ⟨by first | rfl | exact ret_int (by simp [rTold, rFold, rHead]), below_drewN ((Below.refl _ _).alloc (Nat.le_refl _) _) _⟩
  · match zs, hl with
    | [z0, z1], _ =>
      have c0 := hcell 0 (by simp)
      have b0 := hz 0 (by simp)
      have c1 := hcell 1 (by simp)
      have b1 := hz 1 (by simp)
      simp at c0 b0 c1 b1
      obtain ⟨l0, u0⟩ := b0
      obtain ⟨l1, u1⟩ := b1
      clear hcell hz hs hl
      go_enter Tryz.func157, Tryz.ntmps157
      go_wp2_with fail
      go_quiet (fail)
      go_wp2_with fail
      refine wp_loop_rounds 2 ?_
      repeat any_goals (rw [rounds_succ]; go_wp2_with fail)
      go_ret
      exact ⟨by first | rfl | exact ret_int (by simp [rTold, rFold, rHead]), below_drewN ((Below.refl _ _).alloc (Nat.le_refl _) _) _⟩
  · match zs, hl with
    | [z0, z1, z2], _ =>
      have c0 := hcell 0 (by simp)
      have b0 := hz 0 (by simp)
      have c1 := hcell 1 (by simp)
      have b1 := hz 1 (by simp)
      have c2 := hcell 2 (by simp)
      have b2 := hz 2 (by simp)
      simp at c0 b0 c1 b1 c2 b2
      obtain ⟨l0, u0⟩ := b0
      obtain ⟨l1, u1⟩ := b1
      obtain ⟨l2, u2⟩ := b2
      clear hcell hz hs hl
      go_enter Tryz.func157, Tryz.ntmps157
      go_wp2_with fail
      go_quiet (fail)
      go_wp2_with fail
      refine wp_loop_rounds 3 ?_
      repeat any_goals (rw [rounds_succ]; go_wp2_with fail)
      go_ret
      exact ⟨by first | rfl | exact ret_int (by simp [rTold, rFold, rHead]), below_drewN ((Below.refl _ _).alloc (Nat.le_refl _) _) _⟩
  · match zs, hl with
    | [z0, z1, z2, z3], _ =>
      have c0 := hcell 0 (by simp)
      have b0 := hz 0 (by simp)
      have c1 := hcell 1 (by simp)
      have b1 := hz 1 (by simp)
      have c2 := hcell 2 (by simp)
      have b2 := hz 2 (by simp)
      have c3 := hcell 3 (by simp)
      have b3 := hz 3 (by simp)
      simp at c0 b0 c1 b1 c2 b2 c3 b3
      obtain ⟨l0, u0⟩ := b0
      obtain ⟨l1, u1⟩ := b1
      obtain ⟨l2, u2⟩ := b2
      obtain ⟨l3, u3⟩ := b3
      clear hcell hz hs hl
      go_enter Tryz.func157, Tryz.ntmps157
      go_wp2_with fail
      go_quiet (fail)
      go_wp2_with fail
      refine wp_loop_rounds 4 ?_
      repeat any_goals (rw [rounds_succ]; go_wp2_with fail)
      go_ret
      exact ⟨by first | rfl | exact ret_int (by simp [rTold, rFold, rHead]), below_drewN ((Below.refl _ _).alloc (Nat.le_refl _) _) _⟩
end Go.Proofs.YtcogfddcdpgpkaaGreatDoor
