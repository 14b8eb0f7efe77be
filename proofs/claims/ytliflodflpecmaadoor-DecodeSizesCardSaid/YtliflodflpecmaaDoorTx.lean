/- The walks of decode's Text and of the reference's. Conditions: the slice reads as integers. -/
import Derived.Test.YtliflodflpecmaaDoorUt
import Derived.Test.YtliflodflpecmaaDoorWh
import Derived.Test.YtliflodflpecmaaDoorPlT
import Derived.Test.YtliflodflpecmaaDoorStp
namespace Go.Proofs.YtliflodflpecmaaDoor
open Go.RowKit

structure TextRel (w : World) (xs : List Int) (k : Nat) (v : Value) (wr : World) : Prop where
  le : k ≤ xs.length
  own : OwnL wr w.heap.size 5 .u8 v (textOf (xs.take k))
  below : Below w.heap.size w wr
theorem TextRel.short {w wr : World} {xs : List Int} {k : Nat} {v : Value} (_h : TextRel w xs k v wr) : (textOf (xs.take k)).length ≤ 4 * xs.length :=
  Nat.le_trans (textOf_length _) (Nat.mul_le_mul_left _ (List.length_take_le' _ _))

set_option maxHeartbeats 1000000 in
theorem text_any (w : World) (B : Nat) (a : Option Addr) (n c : Nat) (xs : List Int) (hB : B ≤ w.heap.size) (hn : n = xs.length) (hm : xs.length ≤ 1000000000)
    (hs : Sl w B a (xs.map (Value.int .i64))) : Calls Tryd.prog 12 #[.slice a n c] w (RetL .u8 w (textOf xs)) := by
  subst hn
  have HS := Lib.hid hs
  clear hs
  go_enter Tryd.func12, Tryd.ntmps12
  go_wp2_with fail
  go_loopw [3, 5, 8] (fun v _ i wr => ∃ (k : Nat) (a : Option Addr) (m c : Nat), i = .int .i64 k ∧ v = .slice a m c ∧ TextRel w xs k v wr) (fun _ _ i _ => xs.length - (intOf i).toNat)
  case atStart => exact ⟨0, none, 0, 0, by go_num, rfl, ⟨Nat.zero_le _, OwnL.nil _ _ _ _ _, Below.refl _ _⟩⟩
  case round =>
    obtain ⟨k, a1, m1, c1, rfl, rfl, hr⟩ := hrel
    have hle := hr.le
    by_cases hlt : k < xs.length
    · have hlt' : (k : Int) < (xs.length : Int) := by omega
      obtain ⟨b, off, rfl, hb, hcell⟩ := HS.out.int hlt
      have c0 := ((below_cells hr.below).1 b (off + k) (by omega)).trans (hcell k hlt)
      clear hcell
      obtain ⟨x, HX⟩ : ∃ z, Hid (xs.getD k 0 = z) := ⟨_, rfl⟩
      rw [HX.out] at c0
      have HTX : Hid (textOf (xs.take (k + 1)) = textOf (xs.take k) ++ rPut (fixC x)) := by have := textOf_snoc hlt; rw [HX.out] at this; exact this
      have HO := Lib.hid hr.own
      have HSH := Lib.hid hr.short
      have HB := Lib.hid hr.below
      have hwb := hr.below.size
      clear hr
      go_wp2_with fail
      refine (right_any _ _).mono ?_
      rintro e w2 ⟨rfl, rfl⟩
      cases hx : rightC x with
      | true =>
        have hr := rightC_true.1 hx
        obtain ⟨hr0, hr1, -⟩ := hr
        have HR := Lib.hid hx
        have HF := Lib.hid (fixC_yes hx)
        clear hx
        go_wp2_with fail
        refine (appendRune_any _ w.heap.size _ _ _ _ x hr0 HR.out (by have := HSH.out; omega) hwb HO.out).mono ?_
        rintro e w3 ⟨v3, rfl, ho3, hg3, hb3⟩
        have HN : TextRel w xs (k + 1) v3 w3 := ⟨hlt, by rw [HTX.out, HF.out]; exact ho3, HB.out.trans hb3⟩
        clear ho3 hg3 hb3 HO HTX HF HR
        go_wp2_with fail
        obtain ⟨a3, c3, hv, -, -⟩ := HN.own.form
        refine ⟨⟨k + 1, a3, _, c3, by go_num, hv, HN⟩, ?_⟩
        simp [intOf]
        omega
      | false =>
        have HF := Lib.hid (fixC_no hx)
        clear hx
        go_wp2_with fail
        refine (appendRune_any _ w.heap.size _ _ _ _ 65533 (by omega) rfl (by have := HSH.out; omega) hwb HO.out).mono ?_
        rintro e w3 ⟨v3, rfl, ho3, hg3, hb3⟩
        have HN : TextRel w xs (k + 1) v3 w3 := ⟨hlt, by rw [HTX.out, HF.out]; exact ho3, HB.out.trans hb3⟩
        clear ho3 hg3 hb3 HO HTX HF
        go_wp2_with fail
        obtain ⟨a3, c3, hv, -, -⟩ := HN.own.form
        refine ⟨⟨k + 1, a3, _, c3, by go_num, hv, HN⟩, ?_⟩
        simp [intOf]
        omega
    · have hke : k = xs.length := by omega
      subst hke
      have HO := hr.own
      rw [List.take_length] at HO
      have HO' := Lib.hid HO
      have HB := Lib.hid hr.below
      clear hr HO
      go_wp2_with fail
      go_ret
      exact RetL.of rfl HO'.out HB.out

end Go.Proofs.YtliflodflpecmaaDoor
