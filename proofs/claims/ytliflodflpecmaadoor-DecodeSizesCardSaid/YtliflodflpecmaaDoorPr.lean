/- The walks of decode's Prepare and of the reference's. Conditions: the slice reads as integers. -/
import Derived.Test.YtliflodflpecmaaDoorUt
import Derived.Test.YtliflodflpecmaaDoorWh
import Derived.Test.YtliflodflpecmaaDoorPlT
import Derived.Test.YtliflodflpecmaaDoorStp
namespace Go.Proofs.YtliflodflpecmaaDoor
open Go.RowKit

structure PrepRel (w : World) (xs : List Int) (k : Nat) (v : Value) (wr : World) : Prop where
  le : k ≤ xs.length
  ex : ∃ done, OwnL wr w.heap.size 3 .i64 v done ∧ done ++ prep (xs.drop k) = prep xs ∧ done.length ≤ k
  below : Below w.heap.size w wr

theorem PrepRel.skip {w wr : World} {xs : List Int} {k : Nat} {v : Value} (h : PrepRel w xs k v wr) (hlt : k < xs.length) (h1 : xs.getD k 0 = 13) (h2 : xs[k + 1]? = some 10) : PrepRel w xs (k + 1) v wr := by
  obtain ⟨done, ho, he, hl⟩ := h.ex
  refine ⟨hlt, ⟨done, ho, ?_, by omega⟩, h.below⟩
  rw [prep_drop hlt, if_pos ⟨h1, h2⟩] at he
  exact he
theorem PrepRel.put {w wr w2 : World} {xs done : List Int} {k : Nat} {v v2 : Value} {x : Int} (h : PrepRel w xs k v wr) (hlt : k < xs.length) (hne : ¬ (xs.getD k 0 = 13 ∧ xs[k + 1]? = some 10)) (hx : prepC (xs.getD k 0) = x)
    (he : done ++ prep (xs.drop k) = prep xs) (hl : done.length ≤ k) (ho : OwnL w2 w.heap.size 3 .i64 v2 (done ++ [x])) (hb : Below w.heap.size wr w2) : PrepRel w xs (k + 1) v2 w2 := by
  refine ⟨hlt, ⟨_, ho, ?_, by simp; omega⟩, h.below.trans hb⟩
  rw [prep_drop hlt, if_neg hne, hx] at he
  simpa using he

set_option maxHeartbeats 4000000 in
theorem prepare_any (w : World) (B : Nat) (a : Option Addr) (n c : Nat) (xs : List Int) (hB : B ≤ w.heap.size) (hn : n = xs.length) (hm : xs.length ≤ 1000000000)
    (hs : Sl w B a (xs.map (Value.int .i64))) : Calls Tryd.prog 13 #[.slice a n c] w (RetL .i64 w (prep xs)) := by
  subst hn
  have HS := Lib.hid hs
  clear hs
  go_enter Tryd.func13, Tryd.ntmps13
  go_wp2_with (at_make; refine makeL_own w rfl _ _ 24 rfl Tryd.eiInts (by decide) .i64 .i64 .i64 xs.length rfl rfl (by omega) ?_; intro v w1 ho1 hg1 hb1)
  have HR0 : Hid (PrepRel w xs 0 v w1) := ⟨Nat.zero_le _, ⟨[], ho1, rfl, Nat.le_refl _⟩, hb1⟩
  clear ho1 hg1 hb1
  go_loopw [3, 4, 5, 11] (fun v _ _ i wr => ∃ (k : Nat), i = .int .i64 k ∧ PrepRel w xs k v wr) (fun _ _ _ i _ => xs.length - (intOf i).toNat)
  case atStart => exact ⟨0, by go_num, HR0.out⟩
  case round =>
    obtain ⟨k, rfl, hr⟩ := hrel
    have hle := hr.le
    by_cases hlt : k < xs.length
    · have hlt' : (k : Int) < (xs.length : Int) := by omega
      obtain ⟨b, off, rfl, hb, hcell⟩ := HS.out.int hlt
      have c0 := ((below_cells hr.below).1 b (off + k) (by omega)).trans (hcell k hlt)
      obtain ⟨x, HX⟩ : ∃ z, Hid (xs.getD k 0 = z) := ⟨_, rfl⟩
      rw [HX.out] at c0
      have HC := Lib.hid hcell
      clear hcell
      obtain ⟨done, ho, he, hl⟩ := hr.ex
      have HE := Lib.hid he
      have HE2 := Lib.hid he
      have HO := Lib.hid ho
      have HR := Lib.hid hr
      have hwb := hr.below.size
      clear he ho hr
      by_cases h13 : x = 13 ∧ xs[k + 1]? = some 10
      · obtain ⟨rfl, h10⟩ := h13
        have hk1 : k + 1 < xs.length := by
          apply Classical.byContradiction
          intro h
          rw [List.getElem?_eq_none (by omega)] at h10
          cases h10
        have c1 := ((below_cells HR.out.below).1 b (off + (k + 1)) (by omega)).trans (HC.out (k + 1) hk1)
        have h10' : xs.getD (k + 1) 0 = 10 := by rw [List.getD_eq_getElem?_getD, h10]; rfl
        rw [h10'] at c1
        have HN : PrepRel w xs (k + 1) _ wr := HR.out.skip hlt HX.out h10
        clear h10 h10'
        have hk1' : (k : Int) + 1 < (xs.length : Int) := by omega
        clear HE HO HR
        go_wp2_with fail
        go_roundw
        case rel => exact ⟨k + 1, by go_num, HN⟩
        case measure => simp [intOf]; omega
      · have HNE : Hid (¬ (xs.getD k 0 = 13 ∧ xs[k + 1]? = some 10)) := by show ¬ _; rw [HX.out]; exact h13
        clear h13
        by_cases hx13 : x = 13
        · subst hx13
          by_cases hk1 : k + 1 < xs.length
          · have c1 := ((below_cells HR.out.below).1 b (off + (k + 1)) (by omega)).trans (HC.out (k + 1) hk1)
            have hk1' : (k : Int) + 1 < (xs.length : Int) := by omega
            obtain ⟨y, HY⟩ : ∃ z, Hid (xs.getD (k + 1) 0 = z) := ⟨_, rfl⟩
            rw [HY.out] at c1
            have hy : (y == 10) = false := by
              rw [beq_eq_false_iff_ne]
              intro h
              have h2 := HY.out
              refine HNE.out ⟨HX.out, ?_⟩
              rw [List.getElem?_eq_getElem hk1]
              simp [hk1] at h2
              rw [h2, h]
            have HXV : Hid (prepC (xs.getD k 0) = 10) := by show _ = _; rw [HX.out]; rfl
            clear HE
            go_wp2_with (at_builtin; refine appL_one _ rfl (.tmp 45) (.tmp 47) 24 rfl Tryd.eiInts (by decide) w.heap.size .i64 _ done _ rfl HO.out rfl (by omega) hwb ?_; intro v3 w3 ho3 hg3 hb3)
            have HN : PrepRel w xs (k + 1) v3 w3 := HR.out.put hlt HNE.out HXV.out HE2.out hl ho3 hb3
            clear ho3 hg3 hb3 HO HR HXV HNE HE2
            go_roundw
            case rel => exact ⟨k + 1, by go_num, HN⟩
            case measure => simp [intOf]; omega
          · have hk1' : ¬ (k : Int) + 1 < (xs.length : Int) := by omega
            have HXV : Hid (prepC (xs.getD k 0) = 10) := by show _ = _; rw [HX.out]; rfl
            clear HE
            go_wp2_with (at_builtin; refine appL_one _ rfl (.tmp 45) (.tmp 47) 24 rfl Tryd.eiInts (by decide) w.heap.size .i64 _ done _ rfl HO.out rfl (by omega) hwb ?_; intro v3 w3 ho3 hg3 hb3)
            have HN : PrepRel w xs (k + 1) v3 w3 := HR.out.put hlt HNE.out HXV.out HE2.out hl ho3 hb3
            clear ho3 hg3 hb3 HO HR HXV HNE HE2
            go_roundw
            case rel => exact ⟨k + 1, by go_num, HN⟩
            case measure => simp [intOf]; omega
        · have hxb : (x == 13) = false := by rw [beq_eq_false_iff_ne]; exact hx13
          by_cases hx12 : x = 12
          · subst hx12
            have HXV : Hid (prepC (xs.getD k 0) = 10) := by show _ = _; rw [HX.out]; rfl
            clear HE
            go_wp2_with (at_builtin; refine appL_one _ rfl (.tmp 45) (.tmp 47) 24 rfl Tryd.eiInts (by decide) w.heap.size .i64 _ done _ rfl HO.out rfl (by omega) hwb ?_; intro v3 w3 ho3 hg3 hb3)
            have HN : PrepRel w xs (k + 1) v3 w3 := HR.out.put hlt HNE.out HXV.out HE2.out hl ho3 hb3
            clear ho3 hg3 hb3 HO HR HXV HNE HE2
            go_roundw
            case rel => exact ⟨k + 1, by go_num, HN⟩
            case measure => simp [intOf]; omega
          · have hxb2 : (x == 12) = false := by rw [beq_eq_false_iff_ne]; exact hx12
            have HX13 := Lib.hid hx13
            have HX12 := Lib.hid hx12
            clear hx13 hx12
            by_cases hx0 : x = 0
            · subst hx0
              have HXV : Hid (prepC (xs.getD k 0) = 65533) := by show _ = _; rw [HX.out]; rfl
              clear HE
              go_wp2_with (at_builtin; refine appL_one _ rfl (.tmp 45) (.tmp 47) 24 rfl Tryd.eiInts (by decide) w.heap.size .i64 _ done _ rfl HO.out rfl (by omega) hwb ?_; intro v3 w3 ho3 hg3 hb3)
              have HN : PrepRel w xs (k + 1) v3 w3 := HR.out.put hlt HNE.out HXV.out HE2.out hl ho3 hb3
              clear ho3 hg3 hb3 HO HR HXV HNE HE2
              go_roundw
              case rel => exact ⟨k + 1, by go_num, HN⟩
              case measure => simp [intOf]; omega
            · have hxb0 : (x == 0) = false := by rw [beq_eq_false_iff_ne]; exact hx0
              have HX0 := Lib.hid hx0
              clear hx0
              go_wp2_with fail
              refine (right_any _ _).mono ?_
              rintro e w2 ⟨rfl, rfl⟩
              cases hx : rightC x with
              | true =>
                have HF := Lib.hid (fixC_yes hx)
                clear hx
                have HXV : Hid (prepC (xs.getD k 0) = x) := by show _ = _; rw [HX.out]; unfold prepC; rw [if_neg (by intro h; rcases h with h | h; exact HX13.out h; exact HX12.out h), if_neg HX0.out, HF.out]
                clear HE
                go_wp2_with (at_builtin; refine appL_one _ rfl (.tmp 45) (.tmp 47) 24 rfl Tryd.eiInts (by decide) w.heap.size .i64 _ done _ rfl HO.out rfl (by omega) hwb ?_; intro v3 w3 ho3 hg3 hb3)
                have HN : PrepRel w xs (k + 1) v3 w3 := HR.out.put hlt HNE.out HXV.out HE2.out hl ho3 hb3
                clear ho3 hg3 hb3 HO HR HXV HNE HE2
                go_roundw
                case rel => exact ⟨k + 1, by go_num, HN⟩
                case measure => simp [intOf]; omega
              | false =>
                have HF := Lib.hid (fixC_no hx)
                clear hx
                have HXV : Hid (prepC (xs.getD k 0) = 65533) := by show _ = _; rw [HX.out]; unfold prepC; rw [if_neg (by intro h; rcases h with h | h; exact HX13.out h; exact HX12.out h), if_neg HX0.out, HF.out]
                clear HE
                go_wp2_with (at_builtin; refine appL_one _ rfl (.tmp 45) (.tmp 47) 24 rfl Tryd.eiInts (by decide) w.heap.size .i64 _ done _ rfl HO.out rfl (by omega) hwb ?_; intro v3 w3 ho3 hg3 hb3)
                have HN : PrepRel w xs (k + 1) v3 w3 := HR.out.put hlt HNE.out HXV.out HE2.out hl ho3 hb3
                clear ho3 hg3 hb3 HO HR HXV HNE HE2
                go_roundw
                case rel => exact ⟨k + 1, by go_num, HN⟩
                case measure => simp [intOf]; omega
    · have hke : k = xs.length := by omega
      subst hke
      obtain ⟨done, ho, he, hl⟩ := hr.ex
      have hd : done = prep xs := by
        rw [List.drop_length] at he
        simpa [prep] using he
      subst hd
      have HO' := Lib.hid ho
      have HB := Lib.hid hr.below
      clear hr ho he
      go_wp2_with fail
      go_ret
      exact RetL.of rfl HO'.out HB.out

end Go.Proofs.YtliflodflpecmaaDoor
