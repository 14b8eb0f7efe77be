/- The walk of the law DecodeJoins. Conditions: both slices read as bytes. -/
import Derived.Test.YtliflodflpecmaaSp
import Derived.Test.YtliflodflpecmaaPl
import Derived.Test.YtliflodflpecmaaStp
import Derived.Lib.SlBytesConst
namespace Go.Proofs.Ytliflodflpecmaa
open Go.RowKit

theorem BytesOK.cons {z : Int} {zs : List Int} (h : 0 ≤ z ∧ z < 256) (hz : BytesOK zs) : BytesOK ([z] ++ zs) := fun i hi => by
  cases i with
  | zero => simpa using h
  | succ i =>
    simp at hi
    simpa using hz i (by omega)
theorem BytesOK.append {xs ys : List Int} (hx : BytesOK xs) (hy : BytesOK ys) : BytesOK (xs ++ ys) := fun i hi => by
  by_cases h : i < xs.length
  · have := hx i h
    simpa [List.getD_eq_getElem?_getD, List.getElem?_append_left h] using this
  · simp at hi
    have := hy (i - xs.length) (by omega)
    simpa [List.getD_eq_getElem?_getD, List.getElem?_append_right (by omega : xs.length ≤ i)] using this
theorem rawChars_short {n : Nat} : ∀ {zs : List Int}, zs.length ≤ n → (rawChars zs).length ≤ zs.length := by
  induction n with
  | zero =>
    intro zs h
    rw [List.length_eq_zero_iff.1 (by omega : zs.length = 0), rawChars_nil]
    simp
  | succ n ih =>
    intro zs h
    by_cases h0 : zs.length = 0
    · rw [List.length_eq_zero_iff.1 h0, rawChars_nil]
      simp
    · rw [rawChars_of (by omega)]
      have h1 := firstOf_size' (zs := zs) (by omega)
      have := ih (zs := zs.drop (firstOf zs).2) (by simp; omega)
      simp at this ⊢
      omega
theorem dropMark_length (l : List Int) : (dropMark l).length ≤ l.length := by
  unfold dropMark
  split <;> simp
theorem chars_short {zs : List Int} : (chars zs).length ≤ zs.length := Nat.le_trans (dropMark_length _) (rawChars_short (Nat.le_refl _))

theorem joins_tail {w w5 : World} {ry : List Int} {a5 : Option Addr} {c5 : Nat} (hs : Sl w5 w5.heap.size a5 ((120 :: ry).map (Value.int .i64))) (hc : ry.length + 1 ≤ c5) (hge : Ge w5 w) :
    Sl w w5.heap.size (if c5 = 1 then a5 else Option.map (fun x => x.add 1) a5) (ry.map (Value.int .i64)) := by
  have := (hs.ge (Nat.le_refl _) hge).cut (k := 1) (cap := c5) (n := ry.length + 1) (by omega) (by simp) hc
  simpa using this

def JoinsPost (w : World) (e : Ending) (w' : World) : Prop := e = .returned (.bool true) ∧ Below w.heap.size w w'

set_option maxHeartbeats 4000000 in
theorem joins_any (w : World) (a b : Option Addr) (n m c d : Nat) (xs ys : List Int) (hx : BytesOK xs) (hy : BytesOK ys) (hn : n = xs.length) (hm : m = ys.length) (hc : n ≤ c) (hd : m ≤ d)
    (hs : Sl w w.heap.size a (xs.map (Value.int .u8))) (ht : Sl w w.heap.size b (ys.map (Value.int .u8))) : Calls Try.prog 3 #[.slice a n c, .slice b m d] w (RetV w (.bool true)) := by
  subst hn hm
  have HX := Lib.hid hx
  have HY := Lib.hid hy
  clear hx hy
  have kc := fun (w : World) (C : Array Value) (n c : Nat) => Lib.run_convert_bytes_const (P := Try.prog) w 22 5 C n c Try.underlying22 Try.underlying5
  go_enter Try.func3, Try.ntmps3
  go_wp2_with fail
  refine (speaks_any w).mono ?_
  rintro e w1 ⟨rfl, hb1⟩
  have hs1 := hs.below hb1
  have ht1 := ht.below hb1
  have hw1 := hb1.size
  clear hs ht
  by_cases k1 : 1000 < xs.length
  · go_wp2_with fail
    go_ret
    exact ⟨rfl, hb1⟩
  by_cases k2 : 1000 < ys.length
  · go_wp2_with fail
    go_ret
    exact ⟨rfl, hb1⟩
  have k1' : ¬ (1000 : Int) < (xs.length : Int) := by omega
  have k2' : ¬ (1000 : Int) < (ys.length : Int) := by omega
  go_wp2_with fail
  refine (rGood_any _ _ _ _ _ _ hw1 HX.out rfl hc (by omega) hs1).mono ?_
  rintro e w2 ⟨rfl, hb2⟩
  have hb12 : Below w.heap.size w w2 := hb1.trans (hb2.mono hw1)
  have hs2 := hs1.below (hb2.mono hw1)
  have ht2 := ht1.below (hb2.mono hw1)
  have hw2 : w.heap.size ≤ w2.heap.size := hb12.size
  clear hs1 ht1 hb1 hb2 hw1
  cases hg : rGood xs with
  | false =>
    go_wp2_with fail
    go_ret
    exact ⟨rfl, hb12⟩
  | true =>
    by_cases h0 : xs.length = 0
    · have h0' : ((xs.length : Int) == 0) = true := by simp [h0]
      have HH := Lib.hid h0
      clear h0
      go_wp2_with fail
      go_ret
      exact ⟨rfl, hb12⟩
    · have h0' : ((xs.length : Int) == 0) = false := by rw [beq_eq_false_iff_ne]; omega
      have HNE : Hid (xs ≠ []) := fun h => h0 (by rw [h]; rfl)
      have HG := Lib.hid hg
      clear h0 hg
      go_wp2_with fail
      refine (chars_any _ _ _ _ _ _ hw2 HX.out rfl hc (by omega) hs2).mono ?_
      rintro e w3 ⟨a3, c3, rfl, hc3, hs3, hb3⟩
      have hb13 : Below w.heap.size w w3 := hb12.trans (hb3.mono hw2)
      have hs2' := hs2.below (hb3.mono hw2)
      have ht2' := ht2.below (hb3.mono hw2)
      have hw3 : w.heap.size ≤ w3.heap.size := hb13.size
      clear hs2 ht2 hb12 hb3 hw2
      have HL := Lib.hid (Sl.litM w3 5 .u8 [120] #[.int .u8 120] (1, 2) rfl)
      have hta := ht2'.alloc hw3 (.cells #[.int .u8 120] 5 (1, 2))
      go_wp2_with (at_builtin; refine appL_full _ rfl (.tmp 30) (.tmp 31) 22 rfl Try.eiBytes (by decide) .u8 _ 1 _ [120] rfl rfl HL.out (by simp) _ _ _ _ ys rfl rfl hta (by simp) (by omega) ?_; intro A4 m4 c4 w4 hm4 hc4 hs4 hb4; subst hm4)
      have hb14 : Below w.heap.size w w4 := (hb13.alloc hw3 _).trans (hb4.mono (by simp; omega))
      have hs24 := hs2'.below (B := w.heap.size) (w' := w4) (((Below.refl _ w3).alloc hw3 _).trans (hb4.mono (by simp; omega)))
      have ht24 := ht2'.below (B := w.heap.size) (w' := w4) (((Below.refl _ w3).alloc hw3 _).trans (hb4.mono (by simp; omega)))
      have hx4 : Sl w4 w4.heap.size a3 ((chars xs).map (Value.int .i64)) := (hs3.below (((Below.refl _ w3).alloc (Nat.le_refl _) _).trans (hb4.mono (by simp)))).mono (by have := hb4.size; simp at this; omega)
      have hw4 : w.heap.size ≤ w4.heap.size := hb14.size
      have HOK4 : Hid (BytesOK ([120] ++ ys)) := BytesOK.cons (by omega) HY.out
      have HCX : Hid (chars ([120] ++ ys) = 120 :: rawChars ys) := chars_x
      clear hb4 hb13 HL hta hs2' ht2' hs3 hw3
      refine (chars_any _ _ _ _ _ _ (Nat.le_refl _) HOK4.out (by simp) (by simpa using hc4) (by simp; omega) hs4).mono ?_
      rintro e w5 ⟨a5, c5, rfl, hc5, hs5, hb5⟩
      rw [HCX.out] at hc5 hs5 ⊢
      have hb15 : Below w.heap.size w w5 := hb14.trans (hb5.mono hw4)
      have hs25 := hs24.below (hb5.mono hw4)
      have ht25 := ht24.below (hb5.mono hw4)
      have hx5 := hx4.below hb5
      have hx5' := hx5.mono hb5.size
      have hw5 : w.heap.size ≤ w5.heap.size := hb15.size
      have HLX : Hid ((chars xs).length ≤ 1000) := Nat.le_trans chars_short (by omega)
      have HLY : Hid ((rawChars ys).length ≤ 1000) := Nat.le_trans (rawChars_short (Nat.le_refl _)) (by omega)
      have HJ : Hid (chars (xs ++ ys) = chars xs ++ rawChars ys) := chars_joins HG.out HNE.out
      have HOKJ : Hid (BytesOK (xs ++ ys)) := BytesOK.append HX.out HY.out
      clear hb14 hb5 hs24 ht24 hx4 hx5 hs4 hw4 HOK4 HCX HG HNE
      generalize hcx : chars xs = cx at *
      generalize hry : rawChars ys = ry at *
      clear hcx hry
      simp only [List.length_cons] at hc5 ⊢
      go_wp2_with fail
      have htl : ∀ W, Ge w5 W → Sl W w5.heap.size (if c5 = 1 then a5 else Option.map (fun x => x.add 1) a5) (ry.map (Value.int .i64)) := fun W hW => joins_tail hs5 hc5 hW
      have hsx : ∀ W, Ge w5 W → Sl W w.heap.size a (xs.map (Value.int .u8)) := fun W hW => hs25.ge hw5 hW
      have htx : ∀ W, Ge w5 W → Sl W w.heap.size b (ys.map (Value.int .u8)) := fun W hW => ht25.ge hw5 hW
      have hcx : ∀ W, Ge w5 W → Sl W w5.heap.size a3 (cx.map (Value.int .i64)) := fun W hW => hx5'.ge (Nat.le_refl _) hW
      have g1 : ∀ o, Ge w5 (w5.alloc o).drew := fun o => ((Below.refl _ w5).alloc (Nat.le_refl _) o).drew
      have g2 : ∀ o o', Ge w5 ((w5.alloc o).alloc o').drew := fun o o' => ((((Below.refl _ w5).alloc (Nat.le_refl _) o).alloc (by simp) o').drew)
      have HB := Lib.hid hb15
      clear hb15 hs5 hs25 ht25 hx5' hc4
      have HDD : Hid (decide (cx ++ ry = cx ++ ry) = true) := by show _ = _; simp
      by_cases hc51 : c5 = 1
      · subst hc51
        obtain rfl : ry = [] := List.length_eq_zero_iff.1 (by omega)
        simp only [↓reduceIte] at htl
        clear hc5 HLY
        have HLY : Hid (([] : List Int).length ≤ 1000) := by show _ ≤ _; simp
        go_region_law (first
          | (refine step_appS _ rfl (.tmp 34) (.tmp 35) 22 rfl Try.eiBytes (by decide) w5.heap.size .u8 _ [] rfl (OwnL.nil _ _ _ _ _) _ _ _ _ xs rfl rfl (hsx _ (by first | exact g1 _ | exact g2 _ _)) (by simp) (by omega) (by first | exact (g1 _).size | exact (g2 _ _).size) ?_; intro A1 n1 c1 W1 hn1 hc1 ho1 hs1 _ hb1; simp only [List.nil_append] at hn1 ho1 hs1 hc1; subst hn1; have hG1 : Ge w5 W1 := (by first | exact (g1 _).trans hb1 | exact (g2 _ _).trans hb1))
          | (refine step_appS _ rfl (.tmp 36) (.tmp 37) 22 rfl Try.eiBytes (by decide) w5.heap.size .u8 _ xs rfl (by first | exact ho1 | exact ho1.alloc _) _ _ _ _ ys rfl rfl (htx _ (by first | exact hG1 | exact hG1.new _)) (by omega) (by omega) (by first | exact hG1.size | exact (hG1.new _).size) ?_; intro A2 n2 c2 W2 hn2 hc2 ho2 hs2 _ hb2; subst hn2; have hG2 : Ge w5 W2 := (by first | exact hG1.trans hb2 | exact (hG1.new _).trans hb2))
          | (go_simp; go_at_call 9; refine (chars_any _ W2.heap.size _ _ _ (xs ++ ys) (by first | exact Nat.le_refl _ | simp) HOKJ.out (by simp) (by simpa using hc2) (by simp; omega) (by first | exact hs2 | exact hs2.alloc (Nat.le_refl _) _)).mono ?_; rintro e W3 ⟨A3, d3, rfl, hd3, hs3, hb3⟩; rw [HJ.out] at hs3 hd3 ⊢; have hG3 : Ge w5 W3 := (by first | exact hG2.tr hb3 | exact (hG2.new _).tr hb3))
          | (refine step_appS _ rfl (.tmp 40) (.tmp 41) 25 rfl Try.eiInts (by decide) W3.heap.size .i64 _ [] rfl (OwnL.nil _ _ _ _ _) _ _ _ _ cx rfl rfl (hcx _ (by first | exact hG3 | exact hG3.new _)) (by simp) (by have := HLX.out; omega) (by first | exact Nat.le_refl _ | simp) ?_; intro A4 n4 c4 W4 hn4 hc4 ho4 hs4 _ hb4; simp only [List.nil_append] at hn4 ho4 hs4 hc4; subst hn4; have hR4 : Ge W3 W4 := (by first | exact hb4 | exact Below.trans ((Below.refl _ _).alloc (Nat.le_refl _) _) hb4))
          | (go_simp; go_at_call 10; refine (same_any _ _ _ _ _ _ _ _ _ (cx ++ []) (cx ++ []) (by simp) (by simp) (by have := HLX.out; simp; omega) (by have := HLX.out; simp; omega) (hs3.ge (Nat.le_refl _) hR5) hs5).mono ?_; rintro e W6 ⟨rfl, hb6⟩; rw [HDD.out]; have hG6 : Ge w5 W6 := (hG3.tr hR5).tr hb6)
          | (refine step_appS _ rfl (.tmp 42) (.tmp 44) 25 rfl Try.eiInts (by decide) W3.heap.size .i64 _ cx rfl ho4 _ _ _ _ [] rfl (by simp) (htl _ (hG3.tr hR4)) (by have := HLX.out; omega) (by simp) hR4.size ?_; intro A5 n5 e5 W5 hn5 he5 ho5 hs5 _ hb5; subst hn5; have hR5 : Ge W3 W5 := hR4.trans hb5))
        all_goals go_wp2_with fail
        all_goals go_ret
        all_goals exact ⟨rfl, HB.out.trans (hG6.mono hw5)⟩
      · simp only [hc51, ↓reduceIte] at htl
        have hle : (1 : Int) ≤ (ry.length : Int) + 1 := by omega
        have hle2 : 1 ≤ ry.length + 1 := by omega
        go_region_law (first
          | (refine step_appS _ rfl (.tmp 34) (.tmp 35) 22 rfl Try.eiBytes (by decide) w5.heap.size .u8 _ [] rfl (OwnL.nil _ _ _ _ _) _ _ _ _ xs rfl rfl (hsx _ (by first | exact g1 _ | exact g2 _ _)) (by simp) (by omega) (by first | exact (g1 _).size | exact (g2 _ _).size) ?_; intro A1 n1 c1 W1 hn1 hc1 ho1 hs1 _ hb1; simp only [List.nil_append] at hn1 ho1 hs1 hc1; subst hn1; have hG1 : Ge w5 W1 := (by first | exact (g1 _).trans hb1 | exact (g2 _ _).trans hb1))
          | (refine step_appS _ rfl (.tmp 36) (.tmp 37) 22 rfl Try.eiBytes (by decide) w5.heap.size .u8 _ xs rfl (by first | exact ho1 | exact ho1.alloc _) _ _ _ _ ys rfl rfl (htx _ (by first | exact hG1 | exact hG1.new _)) (by omega) (by omega) (by first | exact hG1.size | exact (hG1.new _).size) ?_; intro A2 n2 c2 W2 hn2 hc2 ho2 hs2 _ hb2; subst hn2; have hG2 : Ge w5 W2 := (by first | exact hG1.trans hb2 | exact (hG1.new _).trans hb2))
          | (go_simp; go_at_call 9; refine (chars_any _ W2.heap.size _ _ _ (xs ++ ys) (by first | exact Nat.le_refl _ | simp) HOKJ.out (by simp) (by simpa using hc2) (by simp; omega) (by first | exact hs2 | exact hs2.alloc (Nat.le_refl _) _)).mono ?_; rintro e W3 ⟨A3, d3, rfl, hd3, hs3, hb3⟩; rw [HJ.out] at hs3 hd3 ⊢; have hG3 : Ge w5 W3 := (by first | exact hG2.tr hb3 | exact (hG2.new _).tr hb3))
          | (refine step_appS _ rfl (.tmp 40) (.tmp 41) 25 rfl Try.eiInts (by decide) W3.heap.size .i64 _ [] rfl (OwnL.nil _ _ _ _ _) _ _ _ _ cx rfl rfl (hcx _ (by first | exact hG3 | exact hG3.new _)) (by simp) (by have := HLX.out; omega) (by first | exact Nat.le_refl _ | simp) ?_; intro A4 n4 c4 W4 hn4 hc4 ho4 hs4 _ hb4; simp only [List.nil_append] at hn4 ho4 hs4 hc4; subst hn4; have hR4 : Ge W3 W4 := (by first | exact hb4 | exact Below.trans ((Below.refl _ _).alloc (Nat.le_refl _) _) hb4))
          | (go_simp; go_at_call 10; refine (same_any _ _ _ _ _ _ _ _ _ (cx ++ ry) (cx ++ ry) (by simp) (by simp) (by have := HLX.out; have := HLY.out; simp; omega) (by have := HLX.out; have := HLY.out; simp; omega) (hs3.ge (Nat.le_refl _) hR5) hs5).mono ?_; rintro e W6 ⟨rfl, hb6⟩; rw [HDD.out]; have hG6 : Ge w5 W6 := (hG3.tr hR5).tr hb6)
          | (refine step_appS _ rfl (.tmp 42) (.tmp 44) 25 rfl Try.eiInts (by decide) W3.heap.size .i64 _ cx rfl ho4 _ _ _ _ ry rfl (by simp) (htl _ (hG3.tr hR4)) (by have := HLX.out; omega) (by have := HLY.out; omega) hR4.size ?_; intro A5 n5 e5 W5 hn5 he5 ho5 hs5 _ hb5; subst hn5; have hR5 : Ge W3 W5 := hR4.trans hb5))
        all_goals go_wp2_with fail
        all_goals go_ret
        all_goals exact ⟨rfl, HB.out.trans (hG6.mono hw5)⟩
end Go.Proofs.Ytliflodflpecmaa
