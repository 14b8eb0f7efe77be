/- The evaluator, in one text: over any program; no conditions but those that each law names. -/
import Derived.Test.YtaghfmgeccapbaaGreatAvsd
import Derived.Test.YtaghfmgeccapbaaGreatAvsc
import Derived.Test.YtaghfmgeccapbaaGreatRows
import Derived.Test.YtaghfmgeccapbaaGreatAvb
set_option linter.unusedSimpArgs false
set_option linter.unusedVariables false
set_option linter.unusedSectionVars false
set_option maxRecDepth 100000
namespace Go.Av
open Go.Proofs Go.RowKit Go.Proofs.YtaghfmgeccapbaaGreat
def fN (V : Nat → Int) (k : Nat) : Nat → Value := fun i => .int .i64 (if i < k then V i else 0)
theorem fN_step {W : World} {gn m k : Nat} {V : Nat → Int} {v : Int} {f : Nat → Value} (hR : W.rowIs gn 3 m f) (hf : ∀ j, j < m → j ≠ k → f j = fN V k j) (hv : V k = v) : (W.setCell ⟨gn, k, none⟩ (.int .i64 v)).rowIs gn 3 m (fN V (k + 1)) :=
  (hR.set k _).congr fun j hj => by
    by_cases h : j = k
    · rw [if_pos h, fN, h, if_pos (Nat.lt_succ_self k), hv]
    · rw [if_neg h, hf j hj h, fN, fN]
      by_cases h2 : j < k
      · rw [if_pos h2, if_pos (by omega)]
      · rw [if_neg h2, if_neg (by omega)]
theorem fN_at {W : World} {gn m k : Nat} {V : Nat → Int} {v : Int} {f : Nat → Value} (hR : W.rowIs gn 3 m f) (hf : ∀ j, j < m → j ≠ k → f j = fN V k j) (hk : k < m) (hfk : f k = .int .i64 v) (hv : V k = v) : W.rowIs gn 3 m (fN V (k + 1)) :=
  hR.congr fun j hj => by
    by_cases h : j = k
    · rw [h, hfk, fN, if_pos (Nat.lt_succ_self k), hv]
    · rw [hf j hj h, fN, fN]
      by_cases h2 : j < k
      · rw [if_pos h2, if_pos (by omega)]
      · rw [if_neg h2, if_neg (by omega)]
def numV (cb : Nat → Bool) (nx : Nat → Int) (nums : List Int) (i : Nat) : Int := if cb i = true then nx i else atN 0 nums (i : Int)
set_option maxHeartbeats 16000000 in
theorem next_q (w : World) (v0 v1 v3 : Value) (a2 : Option Addr) (m c2 : Nat) (n : Int) (hn : n ≤ 1000000) (hm : m ≤ 1000000) (N : Nat) (hN : N = n.toNat) (rt : Bool) (ua : Option Addr) (un uc : Nat) (ups : List Bool) (hun : un = ups.length) (hU : Sl w w.heap.size ua (ups.map Value.bool))
    (la : Option Addr) (ln lc : Nat) (lfs : List Bool) (hln : ln = lfs.length) (hLf : Sl w w.heap.size la (lfs.map Value.bool)) (na : Option Addr) (nn nc : Nat) (nums : List Int) (hnn : nn = nums.length) (hNm : Sl w w.heap.size na (nums.map (Value.int .i64)))
    (ta : Option Addr) (tn tc : Nat) (trs : List Bool) (htn : tn = trs.length) (hT : Sl w w.heap.size ta (trs.map Value.bool)) (o0 : v0.oneCell' = true) (o1 : v1.oneCell' = true) (o3 : v3.oneCell' = true)
    (xa xb : Nat → Int) (xc : Nat → Option Addr) (xn xk : Nat → Nat) (cb : Nat → Bool) (nx : Nat → Int) (hX : ∀ k, k < m → ∃ b off, a2 = some ⟨b, off, none⟩ ∧ b < w.heap.size ∧ w.cell? ⟨b, off + k * 3, none⟩ = some (.int .i64 (xa k)) ∧ w.cell? ⟨b, off + k * 3 + 1, none⟩ = some (.int .i64 (xb k)) ∧ w.cell? ⟨b, off + k * 3 + 2, none⟩ = some (.slice (xc k) (xn k) (xk k)))
    (hCt : ∀ W g k, k < m → Ge w W → Bk W g 87 #[v0, v1, .slice a2 m c2, v3, .int .i64 n, .bool false, .slice none 0 0, .slice none 0 0, .slice none 0 0, .slice none 0 0, .slice ta tn tc] → Calls Tryz.prog 37 #[.pointer (some ⟨g, 0, none⟩), .agg #[.int .i64 (xa k), .int .i64 (xb k), .slice (xc k) (xn k) (xk k)]] W fun e W' => e = .returned (.bool (cb k)) ∧ Ge W W')
    (hNx : ∀ W k, k < m → cb k = true → Ge w W → Calls Tryz.prog 38 #[.agg #[.int .i64 (xa k), .int .i64 (xb k), .slice (xc k) (xn k) (xk k)], .int .i64 (atN 0 nums (k : Int))] W fun e W' => e = .returned (.int .i64 (nx k)) ∧ Ge W W')
    (ks : List Int) (K : Nat) (hKl : K = ks.length) (hks : K ≤ 1000000) (hK : ∀ W, Ge w W → Calls Tryz.prog 34 #[.agg #[v0, v1, .slice a2 m c2, v3, .int .i64 n]] W (KeptR w.heap.size W ks K)) :
    Calls Tryz.prog 14 #[.agg #[v0, v1, .slice a2 m c2, v3, .int .i64 n], .agg #[.bool rt, .slice ua un uc, .slice la ln lc, .slice na nn nc], .slice ta tn tc] w fun e w' => ∃ gu gl gn, e = .returned (.agg #[.bool false, .slice (some ⟨gu, 0, none⟩) N N, .slice (some ⟨gl, 0, none⟩) N N, .slice (some ⟨gn, 0, none⟩) m m]) ∧ Ge w w' ∧
      w.heap.size ≤ gu ∧ w.heap.size ≤ gl ∧ w.heap.size ≤ gn ∧ gu ≠ gl ∧ gu ≠ gn ∧ gl ≠ gn ∧ w'.rowIs gu 4 N (fun i => .bool (atN false ups (i : Int))) ∧ w'.rowIs gl 4 N (fun i => .bool (tellV 4 3 ks lfs trs i)) ∧ w'.rowIs gn 3 m (fun i => .int .i64 (numV cb nx nums i)) := by
  have HUN := Lib.hid hun
  have HLN := Lib.hid hln
  have HNN := Lib.hid hnn
  have HTN := Lib.hid htn
  have HKL := Lib.hid hKl
  have HN := Lib.hid hN
  have HX3 := Lib.hid hX; have HCT := Lib.hid hCt; have HNX := Lib.hid hNx
  clear hun htn hKl hN hln hnn hX hCt hNx
  have G0 : Ge w (((w.alloc (.cells #[v0, v1, .slice a2 m c2, v3, .int .i64 n] 36)).alloc (.cells #[.bool rt, .slice ua un uc, .slice la ln lc, .slice na nn nc] 45)).alloc (.cells #[.bool false, .slice none 0 0, .slice none 0 0, .slice none 0 0] 45)) := (((Below.refl _ w).alloc (Nat.le_refl _) _).alloc (by simp) _).alloc (by simp; omega) _
  have B3 : Bk (((w.alloc (.cells #[v0, v1, .slice a2 m c2, v3, .int .i64 n] 36)).alloc (.cells #[.bool rt, .slice ua un uc, .slice la ln lc, .slice na nn nc] 45)).alloc (.cells #[.bool false, .slice none 0 0, .slice none 0 0, .slice none 0 0] 45)) w.heap.size 36 #[v0, v1, .slice a2 m c2, v3, .int .i64 n] := ((Bk.new _ _ _).alloc _).alloc _
  have B4 : Bk (((w.alloc (.cells #[v0, v1, .slice a2 m c2, v3, .int .i64 n] 36)).alloc (.cells #[.bool rt, .slice ua un uc, .slice la ln lc, .slice na nn nc] 45)).alloc (.cells #[.bool false, .slice none 0 0, .slice none 0 0, .slice none 0 0] 45)) (w.heap.size + 1) 45 #[.bool rt, .slice ua un uc, .slice la ln lc, .slice na nn nc] := (by simpa using Bk.new (w.alloc (.cells #[v0, v1, .slice a2 m c2, v3, .int .i64 n] 36)) 45 #[.bool rt, .slice ua un uc, .slice la ln lc, .slice na nn nc] : Bk _ (w.heap.size + 1) _ _).alloc _
  have B6 : Bk (((w.alloc (.cells #[v0, v1, .slice a2 m c2, v3, .int .i64 n] 36)).alloc (.cells #[.bool rt, .slice ua un uc, .slice la ln lc, .slice na nn nc] 45)).alloc (.cells #[.bool false, .slice none 0 0, .slice none 0 0, .slice none 0 0] 45)) (w.heap.size + 1 + 1) 45 #[.bool false, .slice none 0 0, .slice none 0 0, .slice none 0 0] := by simpa using Bk.new ((w.alloc (.cells #[v0, v1, .slice a2 m c2, v3, .int .i64 n] 36)).alloc (.cells #[.bool rt, .slice ua un uc, .slice la ln lc, .slice na nn nc] 45)) 45 #[.bool false, .slice none 0 0, .slice none 0 0, .slice none 0 0]
  have z0 : (((w.alloc (.cells #[v0, v1, .slice a2 m c2, v3, .int .i64 n] 36)).alloc (.cells #[.bool rt, .slice ua un uc, .slice la ln lc, .slice na nn nc] 45)).alloc (.cells #[.bool false, .slice none 0 0, .slice none 0 0, .slice none 0 0] 45)).heap.size = w.heap.size + 3 := by simp
  have HSU := Lib.hid hU; have HSL := Lib.hid hLf; have HSN := Lib.hid hNm; have HST := Lib.hid hT
  clear hU hLf hNm hT
  go_enter Tryz.func14, Tryz.ntmps14
  go_wp2_with (first
    | (go_at_call 33; refine (blank_q _ v0 v1 v3 a2 m c2 n hn hm N HN.out).mono ?_; rintro e w1 ⟨gu, gl, gn, rfl, G1, u1, u2, u3, u4, u5, u6, R1, R2, R3⟩; rw [z0] at u1 u2 u3; have l1 := R1.lt; have l2 := R2.lt; have l3 := R3.lt; have H3 := (B3.below G1 B3.lt).alloc (.cells #[.bool false, .slice (some ⟨gu, 0, none⟩) N N, .slice (some ⟨gl, 0, none⟩) N N, .slice (some ⟨gn, 0, none⟩) m m] 45); have H4 := (B4.below G1 B4.lt).alloc (.cells #[.bool false, .slice (some ⟨gu, 0, none⟩) N N, .slice (some ⟨gl, 0, none⟩) N N, .slice (some ⟨gn, 0, none⟩) m m] 45); have H6 := (B6.below G1 B6.lt).alloc (.cells #[.bool false, .slice (some ⟨gu, 0, none⟩) N N, .slice (some ⟨gl, 0, none⟩) N N, .slice (some ⟨gn, 0, none⟩) m m] 45); have H7 := Bk.new w1 45 #[.bool false, .slice (some ⟨gu, 0, none⟩) N N, .slice (some ⟨gl, 0, none⟩) N N, .slice (some ⟨gn, 0, none⟩) m m]; have G2 : Ge w (w1.alloc (.cells #[.bool false, .slice (some ⟨gu, 0, none⟩) N N, .slice (some ⟨gl, 0, none⟩) N N, .slice (some ⟨gn, 0, none⟩) m m] 45)) := (G0.tr G1).new _; have S1 := R1.alloc (.cells #[.bool false, .slice (some ⟨gu, 0, none⟩) N N, .slice (some ⟨gl, 0, none⟩) N N, .slice (some ⟨gn, 0, none⟩) m m] 45); have S2 := R2.alloc (.cells #[.bool false, .slice (some ⟨gu, 0, none⟩) N N, .slice (some ⟨gl, 0, none⟩) N N, .slice (some ⟨gn, 0, none⟩) m m] 45); have S3 := R3.alloc (.cells #[.bool false, .slice (some ⟨gu, 0, none⟩) N N, .slice (some ⟨gl, 0, none⟩) N N, .slice (some ⟨gn, 0, none⟩) m m] 45); have e1 := H7.cell 1; have e4 := H4.cell 1; simp only [List.getElem?_toArray, List.getElem?_cons_succ, List.getElem?_cons_zero] at e1 e4; have U1 := Lib.hid u1; have U2 := Lib.hid u2; have U3 := Lib.hid u3; have U4 := Lib.hid u4; have U5 := Lib.hid u5; have U6 := Lib.hid u6; have L1 := Lib.hid l1; have L2 := Lib.hid l2; have L3 := Lib.hid l3; clear u1 u2 u3 u4 u5 u6 l1 l2 l3 R1 R2 R3)
    | (refine copy_law rfl (.tmp 16) (.tmp 18) rfl gu N w.heap.size ua un uc ups rfl rfl HUN.out S1 (HSU.out.below G2) ?_; intro w2 z19 hg2 hR2; have J3 := H3.grown hg2 (fun e => by have := Option.some.inj e; have := U1.out; omega); have J4 := H4.grown hg2 (fun e => by have := Option.some.inj e; have := U1.out; omega); have J6 := H6.grown hg2 (fun e => by have := Option.some.inj e; have := U1.out; omega); have J7 := H7.grown hg2 (fun e => by have := Option.some.inj e; have := L1.out; omega); have T2 := S2.of_block (hg2.block gl S2.lt (fun e => U4.out (Option.some.inj e).symm)); have T3 := S3.of_block (hg2.block gn S3.lt (fun e => U5.out (Option.some.inj e).symm)); have G3 : Ge w w2 := below_of_grown_row G2 hg2 (by have := U1.out; omega); have c0 := J3.cell 0; have c1 := J3.cell 1; have c2' := J3.cell 2; have c3 := J3.cell 3; have c4 := J3.cell 4; simp only [List.getElem?_toArray, List.getElem?_cons_succ, List.getElem?_cons_zero] at c0 c1 c2' c3 c4; have L7 : w1.heap.size + 1 ≤ w2.heap.size := (by have := hg2.size; simp at this; omega))
    | (go_at_call 34; refine (hK _ G3).mono ?_; rintro e w4 ⟨ka, kc, rfl, hka, G4⟩))
  obtain ⟨g7, H7e⟩ : ∃ z, z = w1.heap.size := ⟨_, rfl⟩
  rw [← H7e] at J7 L7 L1 L2 L3 ⊢
  have I3 := J3.below G4 J3.lt; have I4 := J4.below G4 J4.lt; have I6 := J6.below G4 J6.lt; have I7 := J7.below G4 J7.lt
  have R1 := rowIs_below hR2 G4; have R2 := rowIs_below T2 G4; have R3 := rowIs_below T3 G4
  have GE : Ge w w4 := G3.tr G4
  have L7' : g7 + 1 ≤ w4.heap.size := Nat.le_trans L7 G4.size
  have HKA := Lib.hid (show ∀ (i : Nat) (x : Int), ks[i]? = some x → ∃ b off, ka = some ⟨b, off, none⟩ ∧ (b < w.heap.size ∨ g7 + 1 ≤ b) ∧ b < w4.heap.size ∧ ∀ (i : Nat) (x : Int), ks[i]? = some x → w4.cell? ⟨b, off + i, none⟩ = some (.int .i64 x) from fun i x h => by
    obtain ⟨b, off, h1, h2, h3, h4⟩ := hka i x h
    exact ⟨b, off, h1, h2.imp id (fun h => Nat.le_trans L7 h), h3, h4⟩)
  have HGE := Lib.hid GE; have HB3 := Lib.hid I3; have HB4 := Lib.hid I4; have HB6 := Lib.hid I6; have HB7 := Lib.hid I7
  have hz : fU (tellV 4 3 ks lfs trs) 0 = fun _ => .bool false := by funext i; simp [fU]
  rw [← hz] at R2
  have HR1 := Lib.hid R1; have HR2 := Lib.hid R2; have HR3 := Lib.hid R3; have HL7 := Lib.hid L7'
  obtain ⟨T, hT'⟩ : ∃ z, z = tellV 4 3 ks lfs trs := ⟨_, rfl⟩
  have HT' := Lib.hid hT'
  rw [← hT'] at HR2
  clear H3 H4 H6 H7 S1 S2 S3 e1 e4 hg2 hR2 J3 J4 J6 J7 T2 T3 G0 G1 G2 G3 G4 B3 B4 B6 c0 c1 c2' c3 c4 hka I3 I4 I6 I7 R1 R2 R3 GE L7 L7' hK hz hT' z0 H7e
  go_loopw [23] (fun v wr => ∃ k : Nat, v = .int .i64 k ∧ k ≤ K ∧ k ≤ N ∧ w4.grownBy wr (some gl) ∧ wr.rowIs gl 4 N (fU T k)) (fun v _ => K - (intOf v).toNat)
  case atStart => exact ⟨0, rfl, Nat.zero_le _, Nat.zero_le _, grown_refl _ _, HR2.out⟩
  case round =>
    rename World => wr
    obtain ⟨k, rfl, hkK, hkN, hg, hR⟩ := hrel
    have n7 : gl ≠ g7 := Nat.ne_of_lt L2.out
    have n4 : gl ≠ w.heap.size + 1 := by have := U2.out; omega
    have n3 : gl ≠ w.heap.size := by have := U2.out; omega
    have b7 := (HB7.out).grown hg (fun e => n7 (Option.some.inj e).symm)
    have b4 := (HB4.out).grown hg (fun e => n4 (Option.some.inj e).symm)
    have c1 := b7.cell 2
    have c4 := b4.cell 2
    simp only [List.getElem?_toArray, List.getElem?_cons_succ, List.getElem?_cons_zero] at c1 c4
    have hexit : k = K ∨ k = N → wr.rowIs gl 4 N (fun i => .bool (T i)) := fun h => hR.congr fun i hi => by
      rw [fU]
      by_cases hik : i < k
      · rw [decide_eq_true hik, Bool.true_and]
      · have hz : ks[i]? = none := List.getElem?_eq_none (by have := HKL.out; omega)
        rw [decide_eq_false hik, Bool.false_and, HT'.out]
        unfold tellV
        rw [hz]
        rfl
    have HE := Lib.hid hexit
    clear hexit
    by_cases hk : k < K
    · obtain ⟨x, hx⟩ : ∃ x, ks[k]? = some x := ⟨_, List.getElem?_eq_getElem (by rw [← HKL.out]; exact hk)⟩
      obtain ⟨b, off, rfl, hb1, hb2, hbc⟩ := HKA.out k x hx
      have hbn : b ≠ gl := by have := U2.out; have := L2.out; omega
      have q := (grown_cell hg hb2 hbn (off + k)).trans (hbc k x hx)
      by_cases hN2 : k < N
      · have hrc := hR.cell hN2
        have hrf := hR.frozen k
        have hr0 : fU T k k = .bool false := by simp [fU]
        rw [hr0] at hrc
        have hSW : Sl wr w.heap.size la (lfs.map Value.bool) := (HSL.out.below (HGE.out)).keep fun b o hb => grown_cell hg (Nat.lt_of_lt_of_le hb HGE.out.size) (by have := U2.out; omega) o
        have hTW : Sl wr w.heap.size ta (trs.map Value.bool) := (HST.out.below (HGE.out)).keep fun b o hb => grown_cell hg (Nat.lt_of_lt_of_le hb HGE.out.size) (by have := U2.out; omega) o
        have HX := Lib.hid hx
        have HSW := Lib.hid hSW; have HTW := Lib.hid hTW
        clear hSW hTW hbc hb1 hb2 hx b4 b7
        by_cases y1 : x = 4
        · subst y1
          go_wp2_with fail
          refine wp_region_still_tail 8 mx12 (by kernel_rfl) ?_
          simp only [List.take_succ_cons, List.take_zero, List.drop_succ_cons, List.drop_zero]
          repeat still_step
          still_call (at_s lfs (k : Int) _ w.heap.size la ln lc HLN.out (by exact HSW.out))
          repeat still_step
          refine wpStill_nil ?_
          change wpList _ _ _ _ _ wr.drew
          go_wp2_with fail
          have tk : T k = (atN false lfs (k : Int) || atN false trs (k : Int)) := by
            rw [HT'.out]
            unfold tellV
            rw [HX.out]
            rfl
          generalize atN false lfs (k : Int) = vb at *
          obtain ⟨W9, hW9⟩ : ∃ z, z = (wr.setCell ⟨gl, k, none⟩ (.bool vb)).drew := ⟨_, rfl⟩
          rw [← hW9]
          have g9 : w4.grownBy W9 (some gl) := by rw [hW9]; exact grown_drew (grown_put hg rfl _)
          have r9 : W9.rowIs gl 4 N (fun j => if j = k then .bool vb else fU T k j) := by rw [hW9]; exact (hR.set k _).drew
          clear hW9
          have C1 := (HB7.out.grown g9 (fun e => n7 (Option.some.inj e).symm)).cell 2
          simp only [List.getElem?_toArray, List.getElem?_cons_succ, List.getElem?_cons_zero] at C1
          have CR := r9.cell hN2
          rw [if_pos rfl] at CR
          have CF := r9.frozen k
          have hTW9 : Sl W9 w.heap.size ta (trs.map Value.bool) := (HST.out.below (HGE.out)).keep fun b o hb => grown_cell g9 (Nat.lt_of_lt_of_le hb HGE.out.size) (by have := U2.out; omega) o
          have HTW9 := Lib.hid hTW9; have HG9 := Lib.hid g9; have HR9 := Lib.hid r9; have HTK := Lib.hid tk
          clear hTW9 g9 r9 tk hg hR q hrc hrf c1 c4 HSW HTW
          cases vb with
          | true =>
            refine wp_region_still_tail 14 mx12 (by kernel_rfl) ?_
            simp only [List.take_succ_cons, List.take_zero, List.drop_succ_cons, List.drop_zero]
            repeat still_step
            refine wpStill_nil ?_
            change wpList _ _ _ _ _ W9.drew
            go_wp2_with fail
            refine ⟨⟨k + 1, by simp, by omega, by omega, grown_drew (grown_put HG9.out rfl _), ?_⟩, ?_⟩
            · exact (row_step HR9.out (fun j _ hj => if_neg hj) (by rw [HTK.out]; simp)).drew
            · simp [intOf]; omega
          | false =>
            refine wp_region_still_tail 14 mx12 (by kernel_rfl) ?_
            simp only [List.take_succ_cons, List.take_zero, List.drop_succ_cons, List.drop_zero]
            repeat still_step
            still_call (at_s trs (k : Int) _ w.heap.size ta tn tc HTN.out (by exact HTW9.out))
            repeat still_step
            refine wpStill_nil ?_
            change wpList _ _ _ _ _ W9.drew
            go_wp2_with fail
            refine ⟨⟨k + 1, by simp, by omega, by omega, grown_drew (grown_put HG9.out rfl _), ?_⟩, ?_⟩
            · exact (row_step HR9.out (fun j _ hj => if_neg hj) (by rw [HTK.out]; simp)).drew
            · simp [intOf]; omega
        · have x1b : (x == 4) = false := by simpa using y1
          by_cases y2 : x = 3
          · subst y2
            clear y1
            have tk : T k = (false || atN false trs (k : Int)) := by
              rw [HT'.out]
              unfold tellV
              rw [HX.out]
              rfl
            obtain ⟨W9, hW9⟩ : ∃ z, z = wr := ⟨_, rfl⟩
            have g9 : w4.grownBy W9 (some gl) := by rw [hW9]; exact hg
            have r9 : W9.rowIs gl 4 N (fun j => if j = k then .bool false else fU T k j) := by
              rw [hW9]
              exact hR.congr fun j hj => by
                by_cases h : j = k
                · rw [if_pos h, h, hr0]
                · rw [if_neg h]
            go_wp2_with fail
            rw [← hW9]
            clear hW9
            have C1 := (HB7.out.grown g9 (fun e => n7 (Option.some.inj e).symm)).cell 2
            simp only [List.getElem?_toArray, List.getElem?_cons_succ, List.getElem?_cons_zero] at C1
            have CR := r9.cell hN2
            rw [if_pos rfl] at CR
            have CF := r9.frozen k
            have hTW9 : Sl W9 w.heap.size ta (trs.map Value.bool) := (HST.out.below (HGE.out)).keep fun b o hb => grown_cell g9 (Nat.lt_of_lt_of_le hb HGE.out.size) (by have := U2.out; omega) o
            have HTW9 := Lib.hid hTW9; have HG9 := Lib.hid g9; have HR9 := Lib.hid r9; have HTK := Lib.hid tk
            clear hTW9 g9 r9 tk hg hR q hrc hrf c1 c4 HSW HTW
            refine wp_region_still_tail 14 mx12 (by kernel_rfl) ?_
            simp only [List.take_succ_cons, List.take_zero, List.drop_succ_cons, List.drop_zero]
            repeat still_step
            still_call (at_s trs (k : Int) _ w.heap.size ta tn tc HTN.out (by exact HTW9.out))
            repeat still_step
            refine wpStill_nil ?_
            change wpList _ _ _ _ _ W9.drew
            go_wp2_with fail
            refine ⟨⟨k + 1, by simp, by omega, by omega, grown_drew (grown_put HG9.out rfl _), ?_⟩, ?_⟩
            · exact (row_step HR9.out (fun j _ hj => if_neg hj) (by rw [HTK.out]; simp)).drew
            · simp [intOf]; omega
          · have x2b : (x == 3) = false := by simpa using y2
            have ht : T k = false := by
              rw [HT'.out]
              unfold tellV
              rw [HX.out, Option.getD_some, if_neg y1, if_neg y2]
            clear y1 y2
            have HTK := Lib.hid ht
            clear ht
            go_wp2_with fail
            exact ⟨⟨k + 1, by simp, by omega, by omega, hg, row_stay hR HTK.out⟩, by simp [intOf]; omega⟩
      · clear b4 b7 hbc hb1 hb2
        have hEx := HE.out (by omega)
        have b3 := (HB3.out).grown hg (fun e => n3 (Option.some.inj e).symm)
        have c0 := b3.cell 0; have c1' := b3.cell 1; have c2' := b3.cell 2; have c3 := b3.cell 3; have c5 := b3.cell 4
        simp only [List.getElem?_toArray, List.getElem?_cons_succ, List.getElem?_cons_zero] at c0 c1' c2' c3 c5
        have c6 := (b3.alloc (.cells #[v0, v1, .slice a2 m c2, v3, .int .i64 n, .bool false, .slice none 0 0, .slice none 0 0, .slice none 0 0, .slice none 0 0, .slice ta tn tc] 87)).cell 2; simp only [List.getElem?_toArray, List.getElem?_cons_succ, List.getElem?_cons_zero] at c6; have HEx := Lib.hid hEx
        clear hEx b3
        go_wp2_with fail
        obtain ⟨d32, hd32⟩ : ∃ z, z = decide (N ≤ k) := ⟨_, rfl⟩
        rw [← hd32]
        clear hd32
        obtain ⟨g10, H10⟩ : ∃ z, z = wr.heap.size := ⟨_, rfl⟩
        obtain ⟨W5, HW5⟩ : ∃ z, z = wr.alloc (.cells #[v0, v1, .slice a2 m c2, v3, .int .i64 n, .bool false, .slice none 0 0, .slice none 0 0, .slice none 0 0, .slice none 0 0, .slice ta tn tc] 87) := ⟨_, rfl⟩
        rw [← HW5, ← H10]
        have GR : w4.grownBy W5 (some gl) := by rw [HW5]; exact grown_new hg _
        have K7 := Lib.hid (HB7.out.grown GR (fun e => n7 (Option.some.inj e).symm)); have K4 := Lib.hid (HB4.out.grown GR (fun e => n4 (Option.some.inj e).symm)); have K6 := Lib.hid (HB6.out.grown GR (fun e => by have := Option.some.inj e; have := U2.out; omega))
        have K10 := Lib.hid (show Bk W5 g10 87 #[v0, v1, .slice a2 m c2, v3, .int .i64 n, .bool false, .slice none 0 0, .slice none 0 0, .slice none 0 0, .slice none 0 0, .slice ta tn tc] by rw [HW5, H10]; exact Bk.new _ _ _)
        have KU := Lib.hid (HR1.out.of_block (GR.block gu HR1.out.lt (fun e => U4.out (Option.some.inj e))))
        have KL := Lib.hid (show W5.rowIs gl 4 N (fun i => .bool (T i)) by rw [HW5]; exact HEx.out.alloc _)
        have KN0 := HR3.out.of_block (GR.block gn HR3.out.lt (fun e => U6.out (Option.some.inj e).symm))
        have KG := Lib.hid (below_of_grown_row HGE.out GR (by have := U2.out; omega))
        have L10 := Lib.hid (show g7 + 1 ≤ g10 by have := Nat.le_trans HL7.out hg.size; omega)
        have N5 := Lib.hid (show g10 + 1 = W5.heap.size by rw [HW5, H10]; simp)
        obtain ⟨V, hV⟩ : ∃ z, z = numV cb nx nums := ⟨_, rfl⟩
        have KN := Lib.hid (show W5.rowIs gn 3 m (fN V 0) from KN0.congr fun i hi => by rw [fN, if_neg (Nat.not_lt_zero i)])
        have HV := Lib.hid hV
        clear GR KN0 hV HW5 H10 c0 c1' c2' c3 c5 c6 HEx hg hR c1 c4 HE hN2 hk hkK hkN
        go_loopw [68] (fun v wx => ∃ j : Nat, v = .int .i64 j ∧ j ≤ m ∧ W5.grownBy wx (some gn) ∧ wx.rowIs gn 3 m (fN V j)) (fun v _ => m - (intOf v).toNat)
        case atStart => exact ⟨0, rfl, Nat.zero_le _, grown_refl _ _, KN.out⟩
        case round =>
          rename World => wx
          obtain ⟨j, rfl, hjm, hgx, hRx⟩ := hrel
          by_cases hj : j < m
          · obtain ⟨b', off', ha2, hbx, hq0, hq1, hq2⟩ := HX3.out j hj
            subst ha2
            have hbn' : b' ≠ gn := by have := U3.out; omega
            have q0 := (grown_cell hgx (Nat.lt_of_lt_of_le hbx KG.out.size) hbn' (off' + j * 3)).trans ((KG.out.cell (p := ⟨b', off' + j * 3, none⟩) hbx).trans hq0)
            have q1 := (grown_cell hgx (Nat.lt_of_lt_of_le hbx KG.out.size) hbn' (off' + j * 3 + 1)).trans ((KG.out.cell (p := ⟨b', off' + j * 3 + 1, none⟩) hbx).trans hq1)
            have q2 := (grown_cell hgx (Nat.lt_of_lt_of_le hbx KG.out.size) hbn' (off' + j * 3 + 2)).trans ((KG.out.cell (p := ⟨b', off' + j * 3 + 2, none⟩) hbx).trans hq2)
            clear hq0 hq1 hq2
            go_wp2_with fail
            obtain ⟨g12, H12⟩ : ∃ z, z = wx.heap.size := ⟨_, rfl⟩
            obtain ⟨wy, Hwy⟩ : ∃ z, z = wx.alloc (.cells #[.int .i64 (xa j), .int .i64 (xb j), .slice (xc j) (xn j) (xk j)] 91) := ⟨_, rfl⟩
            rw [← Hwy, ← H12]
            have gy : W5.grownBy wy (some gn) := by rw [Hwy]; exact grown_new hgx _
            have ry : wy.rowIs gn 3 m (fN V j) := by rw [Hwy]; exact hRx.alloc _
            have b12 : Bk wy g12 91 #[.int .i64 (xa j), .int .i64 (xb j), .slice (xc j) (xn j) (xk j)] := by rw [Hwy, H12]; exact Bk.new _ _ _
            have lg12 : gn < g12 := by rw [H12]; exact hRx.lt
            clear Hwy H12 hgx hRx q0 q1 q2
            have n12 : gn ≠ g12 := Nat.ne_of_lt lg12
            have n12' : g12 ≠ gn := Nat.ne_of_gt lg12
            have i7 : gn ≠ g7 := Nat.ne_of_lt L3.out
            have i7' : g7 ≠ gn := Ne.symm i7
            have i4 : gn ≠ w.heap.size + 1 := by have := U3.out; omega
            have i10 : gn ≠ g10 := by have := L3.out; have := L10.out; omega
            have b7 := K7.out.grown gy (fun e => i7 (Option.some.inj e).symm)
            have b4 := K4.out.grown gy (fun e => i4 (Option.some.inj e).symm)
            have b10 := K10.out.grown gy (fun e => i10 (Option.some.inj e).symm)
            have c7 := b7.cell 3; have c4 := b4.cell 3; have y0 := b12.cell 0; have y1 := b12.cell 1; have y2 := b12.cell 2
            simp only [List.getElem?_toArray, List.getElem?_cons_succ, List.getElem?_cons_zero] at c7 c4 y0 y1 y2
            have CR := ry.cell hj
            have hf0 : fN V j j = .int .i64 0 := by rw [fN, if_neg (Nat.lt_irrefl j)]
            rw [hf0] at CR
            have CF := ry.frozen j
            have GEy := below_of_grown_row KG.out gy (by have := U3.out; omega)
            have HS := Lib.hid (show Sl wy w.heap.size na (nums.map (Value.int .i64)) from HSN.out.below GEy)
            have G17 : W5.grownBy ((wy.setCell ⟨gn, j, none⟩ (.int .i64 (atN 0 nums (j : Int)))).drew) (some gn) := grown_drew (grown_put gy rfl _)
            have R17 : ((wy.setCell ⟨gn, j, none⟩ (.int .i64 (atN 0 nums (j : Int)))).drew).rowIs gn 3 m (fun i => if i = j then .int .i64 (atN 0 nums (j : Int)) else fN V j i) := (ry.set j _).drew
            have GE17 : Ge w ((wy.setCell ⟨gn, j, none⟩ (.int .i64 (atN 0 nums (j : Int)))).drew) := below_of_grown_row KG.out G17 (by have := U3.out; omega)
            have B17 : Bk ((wy.setCell ⟨gn, j, none⟩ (.int .i64 (atN 0 nums (j : Int)))).drew) g10 87 #[v0, v1, .slice (some ⟨b', off', none⟩) m c2, v3, .int .i64 n, .bool false, .slice none 0 0, .slice none 0 0, .slice none 0 0, .slice none 0 0, .slice ta tn tc] := (b10.other (Ne.symm i10) _).drew
            have D17 : Bk ((wy.setCell ⟨gn, j, none⟩ (.int .i64 (atN 0 nums (j : Int)))).drew) g12 91 #[.int .i64 (xa j), .int .i64 (xb j), .slice (xc j) (xn j) (xk j)] := (b12.other n12' _).drew
            have E17 : Bk ((wy.setCell ⟨gn, j, none⟩ (.int .i64 (atN 0 nums (j : Int)))).drew) g7 45 #[.bool false, .slice (some ⟨gu, 0, none⟩) N N, .slice (some ⟨gl, 0, none⟩) N N, .slice (some ⟨gn, 0, none⟩) m m] := (b7.other i7' _).drew
            have HG17 := Lib.hid G17; have HR17 := Lib.hid R17; have HGE17 := Lib.hid GE17; have HB17 := Lib.hid B17; have HD17 := Lib.hid D17; have HE17 := Lib.hid E17
            clear G17 R17 GE17 B17 D17 E17 gy ry b12 b7 b4 b10 hf0 lg12 GEy
            by_cases hcb : cb j = true
            · have hVj : V j = nx j := by rw [HV.out, numV, if_pos hcb]
              have HVJ := Lib.hid hVj
              clear hVj
              refine wp_region_still_tail 8 mx12 (by kernel_rfl) ?_
              simp only [List.take_succ_cons, List.take_zero, List.drop_succ_cons, List.drop_zero]
              repeat still_step
              still_call (count_s nums (j : Int) _ w.heap.size na nn nc HNN.out (by exact HS.out))
              repeat still_step
              refine wpStill_nil ?_
              change wpList _ _ _ _ _ wy.drew
              go_wp2_with (go_at_call 37; refine (HCT.out _ g10 j hj HGE17.out HB17.out).mono ?_; rintro e W18 ⟨rfl, G18⟩; have D18 := HD17.out.below G18 HD17.out.lt; have E18 := HE17.out.below G18 HE17.out.lt; have G18' := grown_ge HG17.out G18; have R18 := rowIs_below HR17.out G18; have GE18 := HGE17.out.tr G18; have d0 := D18.cell 0; have d1 := D18.cell 1; have d2 := D18.cell 2; have f7 := E18.cell 3; have CR18 := R18.cell hj; have CF18 := R18.frozen j; simp only [List.getElem?_toArray, List.getElem?_cons_succ, List.getElem?_cons_zero, if_true] at d0 d1 d2 f7 CR18)
              have HD18 := Lib.hid D18; have HE18 := Lib.hid E18; have HG18 := Lib.hid G18'; have HR18 := Lib.hid R18; have HGE18 := Lib.hid GE18
              clear D18 E18 G18' R18 GE18 G18
              go_region_law (first
                | (go_simp; go_at_call 38; refine (HNX.out _ j hj hcb (by first | exact HGE18.out | exact HGE18.out.drew)).mono ?_; rintro e W19 ⟨rfl, G19⟩; have E19 := HE18.out.drew.below G19 HE18.out.lt; have f7' := E19.cell 3; have CF19 := (rowIs_below HR18.out.drew G19).frozen j; have CR19 := (rowIs_below HR18.out.drew G19).cell hj; simp only [List.getElem?_toArray, List.getElem?_cons_succ, List.getElem?_cons_zero, if_true] at f7' CR19))
              all_goals go_wp2_with fail
              all_goals (
                refine ⟨⟨j + 1, by simp, by omega, ?_, ?_⟩, by simp [intOf]; omega⟩
                · first | exact grown_put (grown_ge (grown_drew HG18.out) G19) rfl _ | exact grown_drew (grown_put (grown_ge (grown_drew HG18.out) G19) rfl _)
                · first | exact fN_step (rowIs_below HR18.out.drew G19) (fun i _ hi => if_neg hi) HVJ.out | exact (fN_step (rowIs_below HR18.out.drew G19) (fun i _ hi => if_neg hi) HVJ.out).drew)
            · have hcf : cb j = false := by simpa using hcb
              have hVj : V j = atN 0 nums (j : Int) := by rw [HV.out, numV, if_neg hcb]
              have HVJ := Lib.hid hVj
              clear hVj hcb
              refine wp_region_still_tail 8 mx12 (by kernel_rfl) ?_
              simp only [List.take_succ_cons, List.take_zero, List.drop_succ_cons, List.drop_zero]
              repeat still_step
              still_call (count_s nums (j : Int) _ w.heap.size na nn nc HNN.out (by exact HS.out))
              repeat still_step
              refine wpStill_nil ?_
              change wpList _ _ _ _ _ wy.drew
              go_wp2_with (go_at_call 37; refine (HCT.out _ g10 j hj HGE17.out HB17.out).mono ?_; rintro e W18 ⟨he, G18⟩; rw [hcf] at he; subst he)
              exact ⟨⟨j + 1, by simp, by omega, grown_ge HG17.out G18, fN_at (rowIs_below HR17.out G18) (fun i _ hi => if_neg hi) hj (if_pos rfl) HVJ.out⟩, by simp [intOf]; omega⟩
          · have hjm2 : j = m := by omega
            have i7 : gn ≠ g7 := Nat.ne_of_lt L3.out
            have i6 : gn ≠ w.heap.size + 1 + 1 := by have := U3.out; omega
            have j6 : gu ≠ w.heap.size + 1 + 1 := by have := U1.out; omega
            have k6 : gl ≠ w.heap.size + 1 + 1 := by have := U2.out; omega
            have b7 := K7.out.grown hgx (fun e => i7 (Option.some.inj e).symm)
            have b6 := K6.out.grown hgx (fun e => i6 (Option.some.inj e).symm)
            have e0 := b7.cell 0; have e1 := b7.cell 1; have e2 := b7.cell 2; have e3 := b7.cell 3
            have f0 := b6.free 0; have f1 := b6.free 1; have f2 := b6.free 2; have f3 := b6.free 3
            have d0 := b6.cell 0; have d1 := b6.cell 1; have d2 := b6.cell 2; have d3 := b6.cell 3
            simp only [List.getElem?_toArray, List.getElem?_cons_succ, List.getElem?_cons_zero] at e0 e1 e2 e3 d0 d1 d2 d3
            have H6 := Lib.hid b6; have HRX := Lib.hid hRx; have HGX := Lib.hid hgx; have HJM := Lib.hid hjm2
            clear b6 b7 hRx hgx hjm2
            go_wp2_with fail
            clear e0 e1 e2 e3 d0 d1 d2 d3 f0 f1 f2 f3
            have bF := (((H6.out.put 0 (.bool false)).put 1 (.slice (some ⟨gu, 0, none⟩) N N)).put 2 (.slice (some ⟨gl, 0, none⟩) N N)).put 3 (.slice (some ⟨gn, 0, none⟩) m m)
            have z0 := bF.cell 0; have z1 := bF.cell 1; have z2 := bF.cell 2; have z3 := bF.cell 3
            simp at z0 z1 z2 z3
            have hRN : wx.rowIs gn 3 m (fun i => .int .i64 (V i)) := HRX.out.congr fun i hi => by
              rw [fN, if_pos (by have := HJM.out; omega)]
            refine ⟨rfl, .agg #[.bool false, .slice (some ⟨gu, 0, none⟩) N N, .slice (some ⟨gl, 0, none⟩) N N, .slice (some ⟨gn, 0, none⟩) m m], ?_, gu, gl, gn, rfl, ?_, ?_, ?_, ?_, U4.out, U5.out, U6.out, ?_, ?_, ?_⟩
            · simp [results, go_sem, z0, z1, z2, z3, Tryz.f14]
            · exact ge_put (ge_put (ge_put (ge_put (below_of_grown_row KG.out HGX.out (by have := U3.out; omega)) (by show _ ≤ w.heap.size + 1 + 1; omega) _) (by show _ ≤ w.heap.size + 1 + 1; omega) _) (by show _ ≤ w.heap.size + 1 + 1; omega) _) (by show _ ≤ w.heap.size + 1 + 1; omega) _
            · have := U1.out; omega
            · have := U2.out; omega
            · have := U3.out; omega
            · exact ((((KU.out.of_block (HGX.out.block gu KU.out.lt (fun e => U5.out (Option.some.inj e)))).setOther j6 _).setOther j6 _).setOther j6 _).setOther j6 _
            · rw [← HT'.out]; exact ((((KL.out.of_block (HGX.out.block gl KL.out.lt (fun e => U6.out (Option.some.inj e)))).setOther k6 _).setOther k6 _).setOther k6 _).setOther k6 _
            · rw [← HV.out]; exact (((hRN.setOther i6 _).setOther i6 _).setOther i6 _).setOther i6 _

    · have hEx := HE.out (by omega)
      have b3 := (HB3.out).grown hg (fun e => n3 (Option.some.inj e).symm)
      have c0 := b3.cell 0; have c1' := b3.cell 1; have c2' := b3.cell 2; have c3 := b3.cell 3; have c5 := b3.cell 4
      simp only [List.getElem?_toArray, List.getElem?_cons_succ, List.getElem?_cons_zero] at c0 c1' c2' c3 c5
      have c6 := (b3.alloc (.cells #[v0, v1, .slice a2 m c2, v3, .int .i64 n, .bool false, .slice none 0 0, .slice none 0 0, .slice none 0 0, .slice none 0 0, .slice ta tn tc] 87)).cell 2; simp only [List.getElem?_toArray, List.getElem?_cons_succ, List.getElem?_cons_zero] at c6; have HEx := Lib.hid hEx
      clear hEx b3
      go_wp2_with fail
      obtain ⟨g10, H10⟩ : ∃ z, z = wr.heap.size := ⟨_, rfl⟩
      obtain ⟨W5, HW5⟩ : ∃ z, z = wr.alloc (.cells #[v0, v1, .slice a2 m c2, v3, .int .i64 n, .bool false, .slice none 0 0, .slice none 0 0, .slice none 0 0, .slice none 0 0, .slice ta tn tc] 87) := ⟨_, rfl⟩
      rw [← HW5, ← H10]
      have GR : w4.grownBy W5 (some gl) := by rw [HW5]; exact grown_new hg _
      have K7 := Lib.hid (HB7.out.grown GR (fun e => n7 (Option.some.inj e).symm)); have K4 := Lib.hid (HB4.out.grown GR (fun e => n4 (Option.some.inj e).symm)); have K6 := Lib.hid (HB6.out.grown GR (fun e => by have := Option.some.inj e; have := U2.out; omega))
      have K10 := Lib.hid (show Bk W5 g10 87 #[v0, v1, .slice a2 m c2, v3, .int .i64 n, .bool false, .slice none 0 0, .slice none 0 0, .slice none 0 0, .slice none 0 0, .slice ta tn tc] by rw [HW5, H10]; exact Bk.new _ _ _)
      have KU := Lib.hid (HR1.out.of_block (GR.block gu HR1.out.lt (fun e => U4.out (Option.some.inj e))))
      have KL := Lib.hid (show W5.rowIs gl 4 N (fun i => .bool (T i)) by rw [HW5]; exact HEx.out.alloc _)
      have KN0 := HR3.out.of_block (GR.block gn HR3.out.lt (fun e => U6.out (Option.some.inj e).symm))
      have KG := Lib.hid (below_of_grown_row HGE.out GR (by have := U2.out; omega))
      have L10 := Lib.hid (show g7 + 1 ≤ g10 by have := Nat.le_trans HL7.out hg.size; omega)
      have N5 := Lib.hid (show g10 + 1 = W5.heap.size by rw [HW5, H10]; simp)
      obtain ⟨V, hV⟩ : ∃ z, z = numV cb nx nums := ⟨_, rfl⟩
      have KN := Lib.hid (show W5.rowIs gn 3 m (fN V 0) from KN0.congr fun i hi => by rw [fN, if_neg (Nat.not_lt_zero i)])
      have HV := Lib.hid hV
      clear GR KN0 hV HW5 H10 c0 c1' c2' c3 c5 c6 HEx hg hR c1 c4 HE hk hkK hkN
      go_loopw [68] (fun v wx => ∃ j : Nat, v = .int .i64 j ∧ j ≤ m ∧ W5.grownBy wx (some gn) ∧ wx.rowIs gn 3 m (fN V j)) (fun v _ => m - (intOf v).toNat)
      case atStart => exact ⟨0, rfl, Nat.zero_le _, grown_refl _ _, KN.out⟩
      case round =>
        rename World => wx
        obtain ⟨j, rfl, hjm, hgx, hRx⟩ := hrel
        by_cases hj : j < m
        · obtain ⟨b', off', ha2, hbx, hq0, hq1, hq2⟩ := HX3.out j hj
          subst ha2
          have hbn' : b' ≠ gn := by have := U3.out; omega
          have q0 := (grown_cell hgx (Nat.lt_of_lt_of_le hbx KG.out.size) hbn' (off' + j * 3)).trans ((KG.out.cell (p := ⟨b', off' + j * 3, none⟩) hbx).trans hq0)
          have q1 := (grown_cell hgx (Nat.lt_of_lt_of_le hbx KG.out.size) hbn' (off' + j * 3 + 1)).trans ((KG.out.cell (p := ⟨b', off' + j * 3 + 1, none⟩) hbx).trans hq1)
          have q2 := (grown_cell hgx (Nat.lt_of_lt_of_le hbx KG.out.size) hbn' (off' + j * 3 + 2)).trans ((KG.out.cell (p := ⟨b', off' + j * 3 + 2, none⟩) hbx).trans hq2)
          clear hq0 hq1 hq2
          go_wp2_with fail
          obtain ⟨g12, H12⟩ : ∃ z, z = wx.heap.size := ⟨_, rfl⟩
          obtain ⟨wy, Hwy⟩ : ∃ z, z = wx.alloc (.cells #[.int .i64 (xa j), .int .i64 (xb j), .slice (xc j) (xn j) (xk j)] 91) := ⟨_, rfl⟩
          rw [← Hwy, ← H12]
          have gy : W5.grownBy wy (some gn) := by rw [Hwy]; exact grown_new hgx _
          have ry : wy.rowIs gn 3 m (fN V j) := by rw [Hwy]; exact hRx.alloc _
          have b12 : Bk wy g12 91 #[.int .i64 (xa j), .int .i64 (xb j), .slice (xc j) (xn j) (xk j)] := by rw [Hwy, H12]; exact Bk.new _ _ _
          have lg12 : gn < g12 := by rw [H12]; exact hRx.lt
          clear Hwy H12 hgx hRx q0 q1 q2
          have n12 : gn ≠ g12 := Nat.ne_of_lt lg12
          have n12' : g12 ≠ gn := Nat.ne_of_gt lg12
          have i7 : gn ≠ g7 := Nat.ne_of_lt L3.out
          have i7' : g7 ≠ gn := Ne.symm i7
          have i4 : gn ≠ w.heap.size + 1 := by have := U3.out; omega
          have i10 : gn ≠ g10 := by have := L3.out; have := L10.out; omega
          have b7 := K7.out.grown gy (fun e => i7 (Option.some.inj e).symm)
          have b4 := K4.out.grown gy (fun e => i4 (Option.some.inj e).symm)
          have b10 := K10.out.grown gy (fun e => i10 (Option.some.inj e).symm)
          have c7 := b7.cell 3; have c4 := b4.cell 3; have y0 := b12.cell 0; have y1 := b12.cell 1; have y2 := b12.cell 2
          simp only [List.getElem?_toArray, List.getElem?_cons_succ, List.getElem?_cons_zero] at c7 c4 y0 y1 y2
          have CR := ry.cell hj
          have hf0 : fN V j j = .int .i64 0 := by rw [fN, if_neg (Nat.lt_irrefl j)]
          rw [hf0] at CR
          have CF := ry.frozen j
          have GEy := below_of_grown_row KG.out gy (by have := U3.out; omega)
          have HS := Lib.hid (show Sl wy w.heap.size na (nums.map (Value.int .i64)) from HSN.out.below GEy)
          have G17 : W5.grownBy ((wy.setCell ⟨gn, j, none⟩ (.int .i64 (atN 0 nums (j : Int)))).drew) (some gn) := grown_drew (grown_put gy rfl _)
          have R17 : ((wy.setCell ⟨gn, j, none⟩ (.int .i64 (atN 0 nums (j : Int)))).drew).rowIs gn 3 m (fun i => if i = j then .int .i64 (atN 0 nums (j : Int)) else fN V j i) := (ry.set j _).drew
          have GE17 : Ge w ((wy.setCell ⟨gn, j, none⟩ (.int .i64 (atN 0 nums (j : Int)))).drew) := below_of_grown_row KG.out G17 (by have := U3.out; omega)
          have B17 : Bk ((wy.setCell ⟨gn, j, none⟩ (.int .i64 (atN 0 nums (j : Int)))).drew) g10 87 #[v0, v1, .slice (some ⟨b', off', none⟩) m c2, v3, .int .i64 n, .bool false, .slice none 0 0, .slice none 0 0, .slice none 0 0, .slice none 0 0, .slice ta tn tc] := (b10.other (Ne.symm i10) _).drew
          have D17 : Bk ((wy.setCell ⟨gn, j, none⟩ (.int .i64 (atN 0 nums (j : Int)))).drew) g12 91 #[.int .i64 (xa j), .int .i64 (xb j), .slice (xc j) (xn j) (xk j)] := (b12.other n12' _).drew
          have E17 : Bk ((wy.setCell ⟨gn, j, none⟩ (.int .i64 (atN 0 nums (j : Int)))).drew) g7 45 #[.bool false, .slice (some ⟨gu, 0, none⟩) N N, .slice (some ⟨gl, 0, none⟩) N N, .slice (some ⟨gn, 0, none⟩) m m] := (b7.other i7' _).drew
          have HG17 := Lib.hid G17; have HR17 := Lib.hid R17; have HGE17 := Lib.hid GE17; have HB17 := Lib.hid B17; have HD17 := Lib.hid D17; have HE17 := Lib.hid E17
          clear G17 R17 GE17 B17 D17 E17 gy ry b12 b7 b4 b10 hf0 lg12 GEy
          by_cases hcb : cb j = true
          · have hVj : V j = nx j := by rw [HV.out, numV, if_pos hcb]
            have HVJ := Lib.hid hVj
            clear hVj
            refine wp_region_still_tail 8 mx12 (by kernel_rfl) ?_
            simp only [List.take_succ_cons, List.take_zero, List.drop_succ_cons, List.drop_zero]
            repeat still_step
            still_call (count_s nums (j : Int) _ w.heap.size na nn nc HNN.out (by exact HS.out))
            repeat still_step
            refine wpStill_nil ?_
            change wpList _ _ _ _ _ wy.drew
            go_wp2_with (go_at_call 37; refine (HCT.out _ g10 j hj HGE17.out HB17.out).mono ?_; rintro e W18 ⟨rfl, G18⟩; have D18 := HD17.out.below G18 HD17.out.lt; have E18 := HE17.out.below G18 HE17.out.lt; have G18' := grown_ge HG17.out G18; have R18 := rowIs_below HR17.out G18; have GE18 := HGE17.out.tr G18; have d0 := D18.cell 0; have d1 := D18.cell 1; have d2 := D18.cell 2; have f7 := E18.cell 3; have CR18 := R18.cell hj; have CF18 := R18.frozen j; simp only [List.getElem?_toArray, List.getElem?_cons_succ, List.getElem?_cons_zero, if_true] at d0 d1 d2 f7 CR18)
            have HD18 := Lib.hid D18; have HE18 := Lib.hid E18; have HG18 := Lib.hid G18'; have HR18 := Lib.hid R18; have HGE18 := Lib.hid GE18
            clear D18 E18 G18' R18 GE18 G18
            go_region_law (first
              | (go_simp; go_at_call 38; refine (HNX.out _ j hj hcb (by first | exact HGE18.out | exact HGE18.out.drew)).mono ?_; rintro e W19 ⟨rfl, G19⟩; have E19 := HE18.out.drew.below G19 HE18.out.lt; have f7' := E19.cell 3; have CF19 := (rowIs_below HR18.out.drew G19).frozen j; have CR19 := (rowIs_below HR18.out.drew G19).cell hj; simp only [List.getElem?_toArray, List.getElem?_cons_succ, List.getElem?_cons_zero, if_true] at f7' CR19))
            all_goals go_wp2_with fail
            all_goals (
              refine ⟨⟨j + 1, by simp, by omega, ?_, ?_⟩, by simp [intOf]; omega⟩
              · first | exact grown_put (grown_ge (grown_drew HG18.out) G19) rfl _ | exact grown_drew (grown_put (grown_ge (grown_drew HG18.out) G19) rfl _)
              · first | exact fN_step (rowIs_below HR18.out.drew G19) (fun i _ hi => if_neg hi) HVJ.out | exact (fN_step (rowIs_below HR18.out.drew G19) (fun i _ hi => if_neg hi) HVJ.out).drew)
          · have hcf : cb j = false := by simpa using hcb
            have hVj : V j = atN 0 nums (j : Int) := by rw [HV.out, numV, if_neg hcb]
            have HVJ := Lib.hid hVj
            clear hVj hcb
            refine wp_region_still_tail 8 mx12 (by kernel_rfl) ?_
            simp only [List.take_succ_cons, List.take_zero, List.drop_succ_cons, List.drop_zero]
            repeat still_step
            still_call (count_s nums (j : Int) _ w.heap.size na nn nc HNN.out (by exact HS.out))
            repeat still_step
            refine wpStill_nil ?_
            change wpList _ _ _ _ _ wy.drew
            go_wp2_with (go_at_call 37; refine (HCT.out _ g10 j hj HGE17.out HB17.out).mono ?_; rintro e W18 ⟨he, G18⟩; rw [hcf] at he; subst he)
            exact ⟨⟨j + 1, by simp, by omega, grown_ge HG17.out G18, fN_at (rowIs_below HR17.out G18) (fun i _ hi => if_neg hi) hj (if_pos rfl) HVJ.out⟩, by simp [intOf]; omega⟩
        · have hjm2 : j = m := by omega
          have i7 : gn ≠ g7 := Nat.ne_of_lt L3.out
          have i6 : gn ≠ w.heap.size + 1 + 1 := by have := U3.out; omega
          have j6 : gu ≠ w.heap.size + 1 + 1 := by have := U1.out; omega
          have k6 : gl ≠ w.heap.size + 1 + 1 := by have := U2.out; omega
          have b7 := K7.out.grown hgx (fun e => i7 (Option.some.inj e).symm)
          have b6 := K6.out.grown hgx (fun e => i6 (Option.some.inj e).symm)
          have e0 := b7.cell 0; have e1 := b7.cell 1; have e2 := b7.cell 2; have e3 := b7.cell 3
          have f0 := b6.free 0; have f1 := b6.free 1; have f2 := b6.free 2; have f3 := b6.free 3
          have d0 := b6.cell 0; have d1 := b6.cell 1; have d2 := b6.cell 2; have d3 := b6.cell 3
          simp only [List.getElem?_toArray, List.getElem?_cons_succ, List.getElem?_cons_zero] at e0 e1 e2 e3 d0 d1 d2 d3
          have H6 := Lib.hid b6; have HRX := Lib.hid hRx; have HGX := Lib.hid hgx; have HJM := Lib.hid hjm2
          clear b6 b7 hRx hgx hjm2
          go_wp2_with fail
          clear e0 e1 e2 e3 d0 d1 d2 d3 f0 f1 f2 f3
          have bF := (((H6.out.put 0 (.bool false)).put 1 (.slice (some ⟨gu, 0, none⟩) N N)).put 2 (.slice (some ⟨gl, 0, none⟩) N N)).put 3 (.slice (some ⟨gn, 0, none⟩) m m)
          have z0 := bF.cell 0; have z1 := bF.cell 1; have z2 := bF.cell 2; have z3 := bF.cell 3
          simp at z0 z1 z2 z3
          have hRN : wx.rowIs gn 3 m (fun i => .int .i64 (V i)) := HRX.out.congr fun i hi => by
            rw [fN, if_pos (by have := HJM.out; omega)]
          refine ⟨rfl, .agg #[.bool false, .slice (some ⟨gu, 0, none⟩) N N, .slice (some ⟨gl, 0, none⟩) N N, .slice (some ⟨gn, 0, none⟩) m m], ?_, gu, gl, gn, rfl, ?_, ?_, ?_, ?_, U4.out, U5.out, U6.out, ?_, ?_, ?_⟩
          · simp [results, go_sem, z0, z1, z2, z3, Tryz.f14]
          · exact ge_put (ge_put (ge_put (ge_put (below_of_grown_row KG.out HGX.out (by have := U3.out; omega)) (by show _ ≤ w.heap.size + 1 + 1; omega) _) (by show _ ≤ w.heap.size + 1 + 1; omega) _) (by show _ ≤ w.heap.size + 1 + 1; omega) _) (by show _ ≤ w.heap.size + 1 + 1; omega) _
          · have := U1.out; omega
          · have := U2.out; omega
          · have := U3.out; omega
          · exact ((((KU.out.of_block (HGX.out.block gu KU.out.lt (fun e => U5.out (Option.some.inj e)))).setOther j6 _).setOther j6 _).setOther j6 _).setOther j6 _
          · rw [← HT'.out]; exact ((((KL.out.of_block (HGX.out.block gl KL.out.lt (fun e => U6.out (Option.some.inj e)))).setOther k6 _).setOther k6 _).setOther k6 _).setOther k6 _
          · rw [← HV.out]; exact (((hRN.setOther i6 _).setOther i6 _).setOther i6 _).setOther i6 _
end Go.Av
namespace Go.Av
open Go.Proofs Go.RowKit Go.Proofs.YtaghfmgeccapbaaGreat
variable [Rk]
def isCt : D → Bool
  | .agg [.int .i64 _, .int .i64 _, .list _] => true
  | _ => false
def extDN (call : Call) : Call := fun f args pbs => match f, args, pbs with
  | 13, [.agg [.list as_, .list rws, .list cts, .list ls, .int .i64 n], .agg [.bool rt, .list up, .list left, .list nums], .list tr], [] =>
    (match call 34 [.agg [.list as_, .list rws, .list cts, .list ls, .int .i64 n]] [] with
    | some (.list kept, _, []) => if smallI n = true ∧ smallI cts.length = true ∧ kept.all isI = true ∧ up.all isB = true ∧ tr.all isB = true ∧ smallI kept.length = true then some (downD n kept up tr cts, [], []) else none
    | _ => none)
  | 14, [.agg [.list as_, .list rws, .list cts, .list ls, .int .i64 n], .agg [.bool rt, .list up, .list left, .list nums], .list tr], [] =>
    (match call 34 [.agg [.list as_, .list rws, .list cts, .list ls, .int .i64 n]] [], numsD call (.agg [.list as_, .list rws, .list cts, .list ls, .int .i64 n]) (.list tr) nums 0 cts with
    | some (.list kept, _, []), some ns => if smallI n = true ∧ smallI cts.length = true ∧ kept.all isI = true ∧ up.all isB = true ∧ left.all isB = true ∧ tr.all isB = true ∧ nums.all isI = true ∧ cts.all isCt = true ∧ smallI kept.length = true then some (nextD n kept up left tr ns, [], []) else none
    | _, _ => none)
  | _, _, _ => none
theorem numsD_at {call : Call} {p tr : D} {nums : List D} : ∀ (cts : List D) (i : Nat) (l : List D), numsD call p tr nums i cts = some l → l.length = cts.length ∧ ∀ (k : Nat) (c : D), cts[k]? = some c → ∃ d, l[k]? = some d ∧ numD call p tr c (nums.getD (i + k) .bad) = some d
  | [], i, l, h => by
    simp only [numsD, Option.some.injEq] at h
    subst h
    exact ⟨rfl, fun k c hk => by simp at hk⟩
  | c :: r, i, l, h => by
    unfold numsD at h
    split at h
    · rename_i d t h1 h2
      simp only [Option.some.injEq] at h
      subst h
      obtain ⟨h3, h4⟩ := numsD_at r (i + 1) t h2
      refine ⟨by rw [List.length_cons, List.length_cons, h3], fun k x hk => ?_⟩
      match k, hk with
      | 0, hk =>
        simp at hk
        subst hk
        exact ⟨d, rfl, h1⟩
      | k + 1, hk =>
        obtain ⟨d', e1, e2⟩ := h4 k x (by simpa using hk)
        exact ⟨d', by simpa using e1, by rw [show i + (k + 1) = i + 1 + k by omega]; exact e2⟩
    · cases h
def cbF (call : Call) (p tr : D) (cts : List D) (k : Nat) : Bool := match call 37 [askD p tr, cts.getD k .bad] [] with
  | some (.bool b, _, []) => b
  | _ => false
def nxF (call : Call) (cts nums : List D) (k : Nat) : Int := match call 38 [cts.getD k .bad, .int .i64 (intD (nums.getD k .bad))] [] with
  | some (.int .i64 m, _, []) => m
  | _ => 0
theorem numD_inv {call : Call} {p tr : D} {cts nums : List D} {k : Nat} {d : D} (h : numD call p tr (cts.getD k .bad) (nums.getD k .bad) = some d) : (∃ r, call 37 [askD p tr, cts.getD k .bad] [] = some (.bool (cbF call p tr cts k), r, [])) ∧
    (cbF call p tr cts k = true → ∃ r, call 38 [cts.getD k .bad, .int .i64 (intD (nums.getD k .bad))] [] = some (.int .i64 (nxF call cts nums k), r, [])) ∧ d = .int .i64 (if cbF call p tr cts k = true then nxF call cts nums k else intD (nums.getD k .bad)) := by
  unfold numD at h
  split at h
  · rename_i b r e1
    have e2 : cbF call p tr cts k = b := by unfold cbF; rw [e1]
    rw [e2]
    split at h
    · rename_i hb
      split at h
      · rename_i m r2 e3
        have e4 : nxF call cts nums k = m := by unfold nxF; rw [e3]
        simp only [Option.some.injEq] at h
        rw [e4]
        exact ⟨⟨r, e1⟩, fun _ => ⟨r2, e3⟩, by rw [if_pos hb]; exact h.symm⟩
      · cases h
    · rename_i hb
      simp only [Option.some.injEq] at h
      exact ⟨⟨r, e1⟩, fun h => absurd h hb, by rw [if_neg hb]; exact h.symm⟩
  · cases h
theorem flat_3 {l : List D} (h : ∀ x ∈ l, (dcells x).length = 3) {k : Nat} {c : D} (hk : l[k]? = some c) {j : Nat} (hj : j < 3) : (flat l)[k * 3 + j]? = (dcells c)[j]? := by
  induction l generalizing k with
  | nil => simp at hk
  | cons a r ih =>
    have e : flat (a :: r) = dcells a ++ flat r := by simp [flat]
    have ha := h a (List.mem_cons_self ..)
    rw [e]
    match k, hk with
    | 0, hk =>
      simp at hk
      subst hk
      rw [Nat.zero_mul, Nat.zero_add, List.getElem?_append_left (by omega)]
    | k + 1, hk =>
      rw [List.getElem?_append_right (by rw [ha]; omega), ha, show (k + 1) * 3 + j - 3 = k * 3 + j by omega]
      exact ih (fun x hx => h x (List.mem_cons_of_mem _ hx)) (by simpa using hk)
def ctA : D → Int
  | .agg [.int .i64 a, .int .i64 _, .list _] => a
  | _ => 0
def ctB : D → Int
  | .agg [.int .i64 _, .int .i64 b, .list _] => b
  | _ => 0
def ctR : D → List D
  | .agg [.int .i64 _, .int .i64 _, .list l] => l
  | _ => []
theorem isCt_inv {d : D} (h : isCt d = true) : d = .agg [.int .i64 (ctA d), .int .i64 (ctB d), .list (ctR d)] := by
  unfold isCt at h
  split at h
  · rfl
  · cases h
theorem cts_at {F : Nat → Nat → Prop} {w : World} {a2 : Option Addr} {c2 : Nat} {cts : List D} (hlt : Lt F w) (h : Den0 F w (.slice a2 cts.length c2) (.list cts)) (hc : cts.all isCt = true) : ∃ (xc : Nat → Option Addr) (xn xk : Nat → Nat), ∀ k, k < cts.length →
    (∃ b off, a2 = some ⟨b, off, none⟩ ∧ b < w.heap.size ∧ w.cell? ⟨b, off + k * 3, none⟩ = some (.int .i64 (ctA (cts.getD k .bad))) ∧ w.cell? ⟨b, off + k * 3 + 1, none⟩ = some (.int .i64 (ctB (cts.getD k .bad))) ∧ w.cell? ⟨b, off + k * 3 + 2, none⟩ = some (.slice (xc k) (xn k) (xk k))) ∧
    Den0 F w (.slice (xc k) (xn k) (xk k)) (.list (ctR (cts.getD k .bad))) := by
  have h3 : ∀ e ∈ cts, (dcells e).length = 3 := fun e he => by rw [isCt_inv (List.all_eq_true.1 hc e he)]; rfl
  obtain ⟨a, c, vs, hv, _, hl, hs, _, hx⟩ := list_sl (sz := 3) hlt h h3
  injection hv with e1 e2 e3
  subst e1 e3
  have key : ∀ k, k < cts.length → ∃ (x : Option Addr × Nat × Nat), (∃ b off, a2 = some ⟨b, off, none⟩ ∧ b < w.heap.size ∧ w.cell? ⟨b, off + k * 3, none⟩ = some (.int .i64 (ctA (cts.getD k .bad))) ∧ w.cell? ⟨b, off + k * 3 + 1, none⟩ = some (.int .i64 (ctB (cts.getD k .bad))) ∧ w.cell? ⟨b, off + k * 3 + 2, none⟩ = some (.slice x.1 x.2.1 x.2.2)) ∧
      Den0 F w (.slice x.1 x.2.1 x.2.2) (.list (ctR (cts.getD k .bad))) := by
    intro k hk
    have hck : cts[k]? = some (cts.getD k .bad) := by rw [List.getD_eq_getElem?_getD, List.getElem?_eq_getElem hk]; rfl
    have ec := isCt_inv (List.all_eq_true.1 hc _ (List.mem_of_getElem? hck))
    have hdc : dcells (cts.getD k .bad) = [.int .i64 (ctA (cts.getD k .bad)), .int .i64 (ctB (cts.getD k .bad)), .list (ctR (cts.getD k .bad))] := (congrArg dcells ec).trans rfl
    obtain ⟨b, off, ha, hb, hcell⟩ := hs.open_ (k := k * 3) (by omega)
    have g0 : vs[k * 3 + 0]? = some (vs[k * 3]'(by omega)) := List.getElem?_eq_getElem (by omega)
    have g1 : vs[k * 3 + 1]? = some (vs[k * 3 + 1]'(by omega)) := List.getElem?_eq_getElem (by omega)
    have g2 : vs[k * 3 + 2]? = some (vs[k * 3 + 2]'(by omega)) := List.getElem?_eq_getElem (by omega)
    have d0 := hx _ _ _ g0 ((flat_3 h3 hck (by decide : 0 < 3)).trans (by rw [hdc]; rfl))
    have d1 := hx _ _ _ g1 ((flat_3 h3 hck (by decide : 1 < 3)).trans (by rw [hdc]; rfl))
    have d2 := hx _ _ _ g2 ((flat_3 h3 hck (by decide : 2 < 3)).trans (by rw [hdc]; rfl))
    have q0 := hcell (k * 3) (by omega)
    have q1 := hcell (k * 3 + 1) (by omega)
    have q2 := hcell (k * 3 + 2) (by omega)
    rw [den0_i d0] at q0
    rw [den0_i d1] at q1
    obtain ⟨x, y, hxy⟩ := den_sl d2
    rw [hxy] at q2 d2
    exact ⟨(x, _, y), ⟨b, off, ha, hb, q0, by rw [Nat.add_assoc]; exact q1, by rw [Nat.add_assoc]; exact q2⟩, d2⟩
  refine ⟨fun k => if hk : k < cts.length then (Classical.choose (key k hk)).1 else none, fun k => if hk : k < cts.length then (Classical.choose (key k hk)).2.1 else 0, fun k => if hk : k < cts.length then (Classical.choose (key k hk)).2.2 else 0, fun k hk => ?_⟩
  simp only [dif_pos hk]
  exact Classical.choose_spec (key k hk)
theorem eleven {P : Value → D → Prop} {a0 a1 a2 a3 a4 a5 a6 a7 a8 a9 a10 : Value} {b0 b1 b2 b3 b4 b5 b6 b7 b8 b9 b10 : D} (h0 : P a0 b0) (h1 : P a1 b1) (h2 : P a2 b2) (h3 : P a3 b3) (h4 : P a4 b4) (h5 : P a5 b5) (h6 : P a6 b6) (h7 : P a7 b7) (h8 : P a8 b8) (h9 : P a9 b9) (h10 : P a10 b10) :
    ∀ (i : Nat) (v : Value) (e : D), [a0, a1, a2, a3, a4, a5, a6, a7, a8, a9, a10][i]? = some v → [b0, b1, b2, b3, b4, b5, b6, b7, b8, b9, b10][i]? = some e → P v e
  | 0, v, e, hv, he => by simp at hv he; subst hv he; exact h0
  | 1, v, e, hv, he => by simp at hv he; subst hv he; exact h1
  | 2, v, e, hv, he => by simp at hv he; subst hv he; exact h2
  | 3, v, e, hv, he => by simp at hv he; subst hv he; exact h3
  | 4, v, e, hv, he => by simp at hv he; subst hv he; exact h4
  | 5, v, e, hv, he => by simp at hv he; subst hv he; exact h5
  | 6, v, e, hv, he => by simp at hv he; subst hv he; exact h6
  | 7, v, e, hv, he => by simp at hv he; subst hv he; exact h7
  | 8, v, e, hv, he => by simp at hv he; subst hv he; exact h8
  | 9, v, e, hv, he => by simp at hv he; subst hv he; exact h9
  | 10, v, e, hv, he => by simp at hv he; subst hv he; exact h10
  | i + 11, v, e, hv, _ => by simp at hv
theorem nil_den {F : Nat → Nat → Prop} {w : World} : Den0 F w (.slice none 0 0) (.list []) := .list none 0 0 1 [] [] rfl (Nat.le_refl _) (by decide) (fun e h => by cases h) rfl (.inl rfl) (fun i v x hv => by cases hv)
theorem ask_den {W : World} {g : Nat} {v0 v1 v3 vt : Value} {a2 : Option Addr} {m c2 : Nat} {n : Int} {as_ rws cts ls tr : List D} (hB : Bk W g 87 #[v0, v1, .slice a2 m c2, v3, .int .i64 n, .bool false, .slice none 0 0, .slice none 0 0, .slice none 0 0, .slice none 0 0, vt]) (o0 : v0.oneCell' = true) (o1 : v1.oneCell' = true) (o3 : v3.oneCell' = true) (ot : vt.oneCell' = true)
    (k0 : Den0 (old W) W v0 (.list as_)) (k1 : Den0 (old W) W v1 (.list rws)) (k2 : Den0 (old W) W (.slice a2 m c2) (.list cts)) (k3 : Den0 (old W) W v3 (.list ls)) (kt : Den0 (old W) W vt (.list tr)) : Den0 (old W) W (.pointer (some ⟨g, 0, none⟩)) (askD (.agg [.list as_, .list rws, .list cts, .list ls, .int .i64 n]) (.list tr)) := by
  refine Den0.fix (.agg [.list as_, .list rws, .list cts, .list ls, .int .i64 n, .bool false, .list [], .list [], .list [], .list [], .list tr]) g 0 0 [v0, v1, .slice a2 m c2, v3, .int .i64 n, .bool false, .slice none 0 0, .slice none 0 0, .slice none 0 0, .slice none 0 0, vt] rfl (fun i v hv => ⟨hB.lt, ?_, ?_⟩) (eleven k0 k1 k2 k3 (.int _ _) (.bool _) nil_den nil_den nil_den nil_den kt)
  · rw [Nat.zero_add, hB.cell i]
    simpa using hv
  · have hm := List.mem_of_getElem? hv
    simp only [List.mem_cons, List.not_mem_nil, or_false] at hm
    rcases hm with rfl | rfl | rfl | rfl | rfl | rfl | rfl | rfl | rfl | rfl | rfl <;> first | assumption | rfl
set_option maxHeartbeats 4000000 in
theorem next_any {call : Call} (hc : CallOK Tryz.prog call) {as_ rws cts ls kept up left nums tr ns : List D} {n : Int} {rt : Bool} {r : List Room} (he : call 34 [.agg [.list as_, .list rws, .list cts, .list ls, .int .i64 n]] [] = some (.list kept, r, [])) (hns : numsD call (.agg [.list as_, .list rws, .list cts, .list ls, .int .i64 n]) (.list tr) nums 0 cts = some ns)
    (hn : smallI n = true) (hm : smallI cts.length = true) (hk : kept.all isI = true) (hu : up.all isB = true) (hl : left.all isB = true) (ht : tr.all isB = true) (hnm : nums.all isI = true) (hct : cts.all isCt = true) (hkl : smallI kept.length = true)
    (vals : List Value) (w : World) (F : Nat → Nat → Prop) (μ : Mu) (hv : vals.length = 3) (hd : ∀ (i : Nat) (v : Value) (x : D), vals[i]? = some v → [D.agg [.list as_, .list rws, .list cts, .list ls, .int .i64 n], .agg [.bool rt, .list up, .list left, .list nums], .list tr][i]? = some x → Den (fun _ => 1) (argNu μ) F w v x) (hlt : Lt F w) (hg : GOK F w) :
    Calls Tryz.prog 14 vals.toArray w (RetD F w (nextD n kept up left tr ns)) := by
  match vals, hv with
  | [p, q, t], _ =>
    have dp := hd 0 p _ rfl rfl
    have hp0 := plan_D dp
    obtain ⟨v0, v1, a2, c2, v3, rfl, o0, o1, o3, k0, k1, k2, k3⟩ := plan_inv dp
    obtain ⟨u1, u2, u3, rfl, oo1, oo2, oo3, d1, d2, d3⟩ := ctx_inv (hd 1 q _ rfl rfl)
    obtain ⟨ua, uc, rfl, _, hU⟩ := bools_sl hlt d1 hu
    obtain ⟨la, lc, rfl, _, hL⟩ := bools_sl hlt d2 hl
    obtain ⟨na, nc, rfl, _, hN⟩ := ints_sl hlt d3 hnm
    have dt := den_list0 (hd 2 t _ rfl rfl)
    obtain ⟨ta, tc, rfl, _, hT⟩ := bools_sl hlt dt ht
    have hK := kept_call hc hlt hg hp0 he hk
    obtain ⟨xc, xn, xk, hX⟩ := cts_at hlt k2 hct
    obtain ⟨hnl, hna⟩ := numsD_at cts 0 ns hns
    have hw : ∀ W, Ge w W → GOK (old W) W ∧ ∀ {v d}, Den0 F w v d → Den0 (old W) W v d := fun W hb => ⟨hg.ext (ext_oldW hlt hb), fun h => h.ext (ext_oldW hlt hb)⟩
    have hnu : ∀ k, k < cts.length → (∃ r, call 37 [askD (.agg [.list as_, .list rws, .list cts, .list ls, .int .i64 n]) (.list tr), cts.getD k .bad] [] = some (.bool (cbF call (.agg [.list as_, .list rws, .list cts, .list ls, .int .i64 n]) (.list tr) cts k), r, [])) ∧
        (cbF call (.agg [.list as_, .list rws, .list cts, .list ls, .int .i64 n]) (.list tr) cts k = true → ∃ r, call 38 [cts.getD k .bad, .int .i64 (intD (nums.getD k .bad))] [] = some (.int .i64 (nxF call cts nums k), r, [])) ∧
        ns[k]? = some (.int .i64 (if cbF call (.agg [.list as_, .list rws, .list cts, .list ls, .int .i64 n]) (.list tr) cts k = true then nxF call cts nums k else intD (nums.getD k .bad))) := fun k hkl => by
      obtain ⟨d, e1, e2⟩ := hna k _ (show cts[k]? = some (cts.getD k .bad) by rw [List.getD_eq_getElem?_getD, List.getElem?_eq_getElem hkl]; rfl)
      rw [Nat.zero_add] at e2
      obtain ⟨f1, f2, rfl⟩ := numD_inv e2
      exact ⟨f1, f2, e1⟩
    generalize cbF call (.agg [.list as_, .list rws, .list cts, .list ls, .int .i64 n]) (.list tr) cts = cb at *
    generalize nxF call cts nums = nxx at *
    have elt : ∀ k, k < cts.length → ∀ W, Ge w W → Den0 (old W) W (.agg #[.int .i64 (ctA (cts.getD k .bad)), .int .i64 (ctB (cts.getD k .bad)), .slice (xc k) (xn k) (xk k)]) (cts.getD k .bad) := fun k hk W hW => by
      have hck : cts[k]? = some (cts.getD k .bad) := by rw [List.getD_eq_getElem?_getD, List.getElem?_eq_getElem hk]; rfl
      have h0 : Den0 (old W) W (.agg #[.int .i64 (ctA (cts.getD k .bad)), .int .i64 (ctB (cts.getD k .bad)), .slice (xc k) (xn k) (xk k)]) (.agg [.int .i64 (ctA (cts.getD k .bad)), .int .i64 (ctB (cts.getD k .bad)), .list (ctR (cts.getD k .bad))]) := by
        refine Den0.agg [.int .i64 (ctA (cts.getD k .bad)), .int .i64 (ctB (cts.getD k .bad)), .slice (xc k) (xn k) (xk k)] _ rfl (fun v hv => ?_) (three_at (P := fun v d => Den0 (old W) W v d) (.int _ _) (.int _ _) ((hw W hW).2 (hX k hk).2))
        simp only [List.mem_cons, List.not_mem_nil, or_false] at hv
        rcases hv with rfl | rfl | rfl <;> rfl
      exact (isCt_inv (List.all_eq_true.1 hct _ (List.mem_of_getElem? hck))) ▸ h0
    refine (next_q w v0 v1 v3 a2 cts.length c2 n (smallI_inv hn) (by have := smallI_inv hm; omega) n.toNat rfl rt ua up.length uc (up.map boolD) (by rw [List.length_map]) hU la left.length lc (left.map boolD) (by rw [List.length_map]) hL na nums.length nc (nums.map intD) (by rw [List.length_map]) hN ta tr.length tc (tr.map boolD) (by rw [List.length_map]) hT o0 o1 o3
      (fun k => ctA (cts.getD k .bad)) (fun k => ctB (cts.getD k .bad)) xc xn xk cb nxx (fun k hk => (hX k hk).1) (fun W g k hk hW hB => ?_) (fun W k hk hcb hW => ?_) (kept.map intD) kept.length (by rw [List.length_map]) (by have := smallI_inv hkl; omega) hK).mono ?_
    · obtain ⟨r', e1⟩ := (hnu k hk).1
      obtain ⟨hgW, hdW⟩ := hw W hW
      refine (callC (C1.of hc e1) hgW (vals := [.pointer (some ⟨g, 0, none⟩), .agg #[.int .i64 (ctA (cts.getD k .bad)), .int .i64 (ctB (cts.getD k .bad)), .slice (xc k) (xn k) (xk k)]]) rfl (two_at (P := fun v d => Den0 (old W) W v d) (ask_den hB o0 o1 o3 rfl (hdW k0) (hdW k1) (hdW k2) (hdW k3) (hdW dt)) (elt k hk W hW))).mono ?_
      rintro e W' ⟨⟨v, rfl, hv⟩, hb'⟩
      exact ⟨by rw [den_bool hv], hb'⟩
    · obtain ⟨r', e1⟩ := (hnu k hk).2.1 hcb
      obtain ⟨hgW, hdW⟩ := hw W hW
      rw [atN_intD hnm]
      refine (callC (C1.of hc e1) hgW (vals := [.agg #[.int .i64 (ctA (cts.getD k .bad)), .int .i64 (ctB (cts.getD k .bad)), .slice (xc k) (xn k) (xk k)], .int .i64 (intD (nums.getD k .bad))]) rfl (two_at (P := fun v d => Den0 (old W) W v d) (elt k hk W hW) (.int _ _))).mono ?_
      rintro e W' ⟨⟨v, rfl, hv⟩, hb'⟩
      have h1 : v = .int .i64 (nxx k) := (hv (fun _ => 0) fun _ _ => 0).int_
      exact ⟨by rw [h1], hb'⟩
    · rintro e w' ⟨gu, gl, gn, rfl, hG, z1, z2, z3, z4, z5, z6, R1, R2, R3⟩
      refine RetD.of hG (ctx_den R1 R2 R3 (fun o => .inr ⟨z1, R1.lt⟩) (fun o => .inr ⟨z2, R2.lt⟩) (fun o => .inr ⟨z3, R3.lt⟩) ?_ ?_ ?_)
      · unfold copyL
        exact List.map_congr_left fun i _ => by rw [atN_atD hu]
      · unfold tellL
        exact List.map_congr_left fun i _ => by rw [tellV_D hk hl ht]
      · refine List.ext_getElem? fun i => ?_
        rw [List.getElem?_map]
        by_cases hi : i < cts.length
        · rw [List.getElem?_range hi, (hnu i hi).2.2]
          simp only [Option.map_some, numV, atN_intD hnm]
        · rw [List.getElem?_eq_none (by omega), List.getElem?_eq_none (by rw [List.length_range]; omega)]
          rfl
theorem extDN_ok {call : Call} (hc : CallOK Tryz.prog call) : CallOK Tryz.prog (extDN call) := by
  intro f args pbs d r pbs' h
  unfold extDN at h
  split at h
  · split at h
    · rename_i he
      split at h
      · rename_i hh
        obtain ⟨h1, h2, h3, h4, h5, h6⟩ := hh
        simp only [Option.some.injEq, Prod.mk.injEq] at h
        obtain ⟨rfl, rfl, rfl⟩ := h
        exact ⟨⟨_, Tryz.func13, rfl⟩, fun vals w F μ hv hd hb _ hlt hg => (down_any hc he h1 h2 h3 h4 h5 h6 vals w F μ hv hd hlt hg).mono fun e w' h => h.ret hlt⟩
      · cases h
    · cases h
  · split at h
    · rename_i he hns
      split at h
      · rename_i hh
        obtain ⟨h1, h2, h3, h4, h5, h6, h7, h8, h9⟩ := hh
        simp only [Option.some.injEq, Prod.mk.injEq] at h
        obtain ⟨rfl, rfl, rfl⟩ := h
        exact ⟨⟨_, Tryz.func14, rfl⟩, fun vals w F μ hv hd hb _ hlt hg => (next_any hc he hns h1 h2 h3 h4 h5 h6 h7 h8 h9 vals w F μ hv hd hlt hg).mono fun e w' h => h.ret hlt⟩
      · cases h
    · cases h
  · cases h
end Go.Av
namespace Go.Av
open Go.Proofs
variable [Rk] {chk : List D → Bool}
def askG (as_ : List D) (rows : List Rw) (cts ls : List D) (st : Int) (rt : Bool) (up left nums holds : List D) (tr : List Bool) : D := .fix (.agg [.list as_, .list (rows.map Rw.d), .list cts, .list ls, .int .i64 st, .bool rt, .list up, .list left, .list nums, .list holds, .list (dB tr)]) 0
def rowB (rows : List Rw) (tr : List Bool) (n : Int) : Bool := if 0 ≤ n then (match rows[n.toNat]? with | some r => decide (0 < r.steps.length) && atB tr ((r.first : Int) + r.steps.length - 1) | none => false) else false
set_option maxHeartbeats 4000000 in
theorem row_L (as_ : List D) (rows : List Rw) (cts ls : List D) (st : Int) (rt : Bool) (up left nums holds : List D) (tr : List Bool) (hr : ∀ r ∈ rows, r.first + r.steps.length ≤ 1000000) (n : Int) :
    callL Tryz.prog (ext11b chk) 39 [askG as_ rows cts ls st rt up left nums holds tr, .int .i64 n] [] = some (.bool (rowB rows tr n), [.no], []) := by
  have lR := lenM rows Rw.d
  unfold askG rowB
  by_cases c : 0 ≤ n
  · rw [if_pos c]
    have c' : ¬ n < 0 := by omega
    by_cases d : n < rows.length
    · have d' : ¬ (rows.length : Int) ≤ n := by omega
      obtain ⟨r, hrl⟩ : ∃ r, rows[n.toNat]? = some r := ⟨rows[n.toNat]'(by omega), List.getElem?_eq_getElem (by omega)⟩
      have hgd : (rows.map Rw.d).getD n.toNat .bad = .agg [.int .i64 (r.first : Nat), .list (r.steps.map stpD), .str r.ps] := getD_map (f := Rw.d) hrl
      have hb := hr r (List.mem_of_getElem? hrl)
      have lS : ((r.steps.map stpD).length : Int) = r.steps.length := by rw [List.length_map]
      have ha := atS_L (chk := chk) tr ((r.first : Int) + r.steps.length - 1)
      rw [hrl]
      dsimp only
      clear hrl hr
      by_cases e : 0 < r.steps.length
      · have e' : (0 : Int) < r.steps.length := by omega
        have w1 : IntKind.i64.wrap ((r.first : Int) + r.steps.length) = (r.first : Int) + r.steps.length := wrap64 _ (by omega) (by omega)
        have w2 : IntKind.i64.wrap ((r.first : Int) + r.steps.length - 1) = (r.first : Int) + r.steps.length - 1 := wrap64 _ (by omega) (by omega)
        rw [decide_eq_true e, Bool.true_and]
        generalize atB tr ((r.first : Int) + r.steps.length - 1) = B at *
        clear hb
        exact cWy 44 4 Tryz.func39
      · have e' : ¬ (0 : Int) < r.steps.length := by omega
        rw [decide_eq_false e, Bool.false_and]
        clear hb ha
        exact cWy 44 4 Tryz.func39
    · have d' : (rows.length : Int) ≤ n := by omega
      rw [List.getElem?_eq_none (by omega)]
      clear d hr
      exact cWy 44 4 Tryz.func39
  · rw [if_neg c]
    have c' : n < 0 := by omega
    clear hr
    exact cWy 44 4 Tryz.func39
def idxF (p : Int → Bool) (l : List Int) : Int := match l.findIdx? p with | some i => (i : Nat) | none => -1
theorem idxF_any (p : Int → Bool) (l : List Int) : decide (0 ≤ idxF p l) = l.any p := by
  unfold idxF
  cases h : l.findIdx? p with
  | none =>
    have := List.findIdx?_eq_none_iff.1 h
    rw [List.any_eq_false.2 fun x hx => by rw [this x hx]; decide]
    rfl
  | some i =>
    obtain ⟨hi, h1, _⟩ := List.findIdx?_eq_some_iff_getElem.1 h
    rw [List.any_eq_true.2 ⟨l[i], List.getElem_mem hi, h1⟩, decide_eq_true_eq]
    exact Int.natCast_nonneg _
theorem find_take {p : Int → Bool} {l : List Int} {i : Nat} {x : Int} (h : l[i]? = some x) (h0 : (l.take i).findIdx? p = none) (hp : p x = true) : l.findIdx? p = some i := by
  obtain ⟨hi, rfl⟩ := List.getElem?_eq_some_iff.1 h
  rw [List.findIdx?_eq_some_iff_getElem]
  refine ⟨hi, hp, fun j hj => ?_⟩
  have := List.findIdx?_eq_none_iff.1 h0 l[j] (by rw [List.mem_take_iff_getElem]; exact ⟨j, by omega, rfl⟩)
  rw [this]
  decide
theorem find_next {p : Int → Bool} {l : List Int} {i : Nat} {x : Int} (h : l[i]? = some x) (h0 : (l.take i).findIdx? p = none) (hp : p x = false) : (l.take (i + 1)).findIdx? p = none := by
  rw [List.findIdx?_eq_none_iff] at h0 ⊢
  intro y hy
  rw [List.take_add_one, h] at hy
  rcases List.mem_append.1 hy with hy | hy
  · exact h0 y hy
  · simp at hy
    rw [hy]
    exact hp
set_option maxHeartbeats 4000000 in
theorem index_L2 (A : D) (hA : ∃ d o, A = .fix d o) (p : Int → Bool) (hp : ∀ n : Int, callL Tryz.prog (ext11b chk) 39 [A, .int .i64 n] [] = some (.bool (p n), [.no], [])) (l : List Int) (hl : l.length ≤ 1000000) :
    callL Tryz.prog (ext11b chk) 83 [.list (dI l), .func (.func 39) [A] []] [] = some (.int .i64 (idxF p l), [.no], []) := by
  obtain ⟨d, o, rfl⟩ := hA
  have lA : ((dI l).length : Int) = l.length := by unfold dI; rw [List.length_map]
  have HL := Hd.mk hl
  have HP := Hd.mk hp
  clear hl hp
  obtain ⟨R, hR⟩ : ∃ R, Hd (R = idxF p l) := ⟨_, rfl⟩
  rw [← (show R = idxF p l from hR)]
  refine cK 19 4 Tryz.func83 ?_
  refine Gy ?_
  refine loopH (fun s => ∃ i : Nat, i ≤ l.length ∧ s.slot 8 = .int .i64 i ∧ s.slot 7 = .int .i64 (l.length : Nat) ∧ s.slot 0 = .list (dI l) ∧ s.slot 1 = .func (.func 39) [.fix d o] [] ∧ Hd ((l.take i).findIdx? p = none)) (fun s => l.length - slotI s 8) ?_ ?_
  · exact ⟨0, Nat.zero_le _, Iy, Iy, Iy, Iy, rfl⟩
  · rintro s K ⟨i, hi, g8, g7, g0, g1, hO⟩ hn hx hr
    have hl : l.length ≤ 1000000 := HL
    have hO' : (l.take i).findIdx? p = none := hO
    by_cases hlt : i < l.length
    · obtain ⟨x, hx1⟩ : ∃ x, l[i]? = some x := ⟨l[i], List.getElem?_eq_getElem hlt⟩
      have hlt' : (i : Int) < l.length := by omega
      have ga : (dI l).getD i .bad = .int .i64 x := getD_map (f := D.int .i64) hx1
      have hw1 := wrapS i (by omega)
      have hc := (show ∀ n : Int, callL Tryz.prog (ext11b chk) 39 [.fix d o, .int .i64 n] [] = some (.bool (p n), [.no], []) from HP) x
      cases hpx : p x with
      | true =>
        have hRi : R = (i : Int) := by
          rw [show R = idxF p l from hR]
          unfold idxF
          rw [find_take hx1 hO' hpx]
        subst hRi
        rw [hpx] at hc
        clear hx1 HL HP hl hn hx hO hO' hpx
        refine Gy ?_
        exact hr _ Wy
      | false =>
        have HO := Hd.mk (find_next hx1 hO' hpx)
        rw [hpx] at hc
        clear hx1 HL HP hl hr hx hO hO' hpx hR
        refine Gy ?_
        exact hn _ ⟨i + 1, hlt, L, L, L, L, HO⟩ Zy
    · have hge : ¬ (i : Int) < l.length := by omega
      have hRi : R = -1 := by
        rw [show R = idxF p l from hR]
        unfold idxF
        rw [List.take_of_length_le (by omega)] at hO'
        rw [hO']
      subst hRi
      clear HL HP hl hn hr hO hO' hR
      refine Gy ?_
      refine hx _ _ ?_
      clear hx
      exact Wy
set_option maxHeartbeats 4000000 in
theorem contains_L2 (A : D) (hA : ∃ d o, A = .fix d o) (p : Int → Bool) (hp : ∀ n : Int, callL Tryz.prog (ext11b chk) 39 [A, .int .i64 n] [] = some (.bool (p n), [.no], [])) (l : List Int) (hl : l.length ≤ 1000000) :
    callL Tryz.prog (ext11b chk) 60 [.list (dI l), .func (.func 39) [A] []] [] = some (.bool (l.any p), [.no], []) := by
  have h := index_L2 (chk := chk) A hA p hp l hl
  obtain ⟨d, o, rfl⟩ := hA
  rw [← idxF_any]
  clear hp hl
  generalize idxF p l = z at *
  have pf : ptrIn [.func (.func 39) [.fix d o] []] = none := ptrIn_fm1 _ _ _ _
  by_cases c : 0 ≤ z
  · rw [decide_eq_true c]
    exact cWy 9 4 Tryz.func60
  · rw [decide_eq_false c]
    exact cWy 9 4 Tryz.func60
def countsB (rows : List Rw) (tr : List Bool) (l : List Int) : Bool := l.isEmpty || l.any (rowB rows tr)
set_option maxHeartbeats 4000000 in
theorem counts_L (as_ : List D) (rows : List Rw) (cts ls : List D) (st : Int) (rt : Bool) (up left nums holds : List D) (tr : List Bool) (hr : ∀ r ∈ rows, r.first + r.steps.length ≤ 1000000) (c : Ct) (hc : c.rows.length ≤ 1000000) :
    callL Tryz.prog (ext11b chk) 37 [askG as_ rows cts ls st rt up left nums holds tr, c.d] [] = some (.bool (countsB rows tr c.rows), [.no], []) := by
  have h := contains_L2 (chk := chk) (askG as_ rows cts ls st rt up left nums holds tr) ⟨_, _, rfl⟩ (rowB rows tr) (row_L (chk := chk) as_ rows cts ls st rt up left nums holds tr hr) c.rows hc
  have lC : ((dI c.rows).length : Int) = c.rows.length := by unfold dI; rw [List.length_map]
  have hd : c.d = .agg [.int .i64 c.a, .int .i64 c.b, .list (dI c.rows)] := rfl
  rw [hd]
  unfold askG at *
  unfold countsB
  generalize c.rows.any (rowB rows tr) = B at *
  generalize rows.map Rw.d = RW at *
  have pf : ∀ A o, ptrIn [.func (.func 39) [.fix A o] []] = none := fun A o => ptrIn_fm1 _ _ _ _
  clear hr hd hc
  generalize c.rows = l at *
  cases l with
  | nil =>
    clear h
    rw [List.isEmpty_nil, Bool.true_or]
    have lZ : dI [] = [] := rfl
    rw [lZ]
    clear lC
    exact cWy 16 4 Tryz.func37
  | cons x r =>
    have hz : ((((x :: r).length : Nat) : Int) == 0) = false := by simp; omega
    rw [List.isEmpty_cons, Bool.false_or]
    generalize x :: r = l at *
    exact cWy 16 4 Tryz.func37
end Go.Av
namespace Go.Av
open Go.Proofs
variable [Rk] {chk : List D → Bool}
set_option maxHeartbeats 4000000 in
theorem divisor_L (s : Int) (h1 : 1 ≤ s) (h2 : s ≤ 1000000) : callL Tryz.prog (ext11b chk) 108 [.int .i64 1, .int .i64 s] [] = some (.int .i64 1, [.no], []) := by
  have H1 := Hd.mk h1
  have H2 := Hd.mk h2
  clear h1 h2
  refine cK 12 4 Tryz.func108 ?_
  refine Gy ?_
  refine loopH (fun t => ∃ a b : Int, t.slot 0 = .int .i64 a ∧ t.slot 1 = .int .i64 b ∧ Hd ((a = 1 ∧ b = s) ∨ (a = s ∧ b = 1 ∧ 1 < s) ∨ (a = 1 ∧ b = 0))) (fun t => slotI t 1) ?_ ?_
  · exact ⟨1, s, Iy, Iy, .inl ⟨rfl, rfl⟩⟩
  · rintro t K ⟨a, b, g0, g1, hab⟩ hn hx hr
    have h1 : 1 ≤ s := H1
    have h2 : s ≤ 1000000 := H2
    have hab' : (a = 1 ∧ b = s) ∨ (a = s ∧ b = 1 ∧ 1 < s) ∨ (a = 1 ∧ b = 0) := hab
    clear hab
    by_cases hb : 0 < b
    · have hb0 : ¬ b = 0 := by omega
      obtain ⟨c, hc, hc2⟩ : ∃ c, a.tmod b = c ∧ (c < b ∧ 0 ≤ c ∧ Hd ((b = 1 ∧ c = s) ∨ (b = s ∧ c = 1 ∧ 1 < s) ∨ (b = 1 ∧ c = 0))) := by
        rcases hab' with ⟨rfl, rfl⟩ | ⟨rfl, rfl, h⟩ | ⟨rfl, rfl⟩
        · by_cases hs : b = 1
          · subst hs
            exact ⟨0, rfl, by decide, by decide, .inr (.inr ⟨rfl, rfl⟩)⟩
          · exact ⟨1, Int.tmod_eq_of_lt (by decide) (by omega), by omega, by decide, .inr (.inl ⟨rfl, rfl, by omega⟩)⟩
        · exact ⟨0, Int.tmod_one a, by decide, by decide, .inr (.inr ⟨rfl, rfl⟩)⟩
        · exact absurd hb (by decide)
      obtain ⟨c1, c2, c3⟩ := hc2
      clear hab' hr hx h1 h2
      refine Qy ?_
      exact hn _ ⟨b, c, L, L, c3⟩ Zy
    · have ha : a = 1 := by
        rcases hab' with ⟨h, h'⟩ | ⟨_, h', _⟩ | ⟨h, _⟩
        · exact h
        · omega
        · exact h
      subst ha
      clear hab' hn hr h1 h2
      refine Gy ?_
      refine hx _ _ ?_
      clear hx
      exact Wy
theorem common_L (s : Int) (h1 : 1 ≤ s) (h2 : s ≤ 1000000) : callL Tryz.prog (ext11b chk) 84 [.int .i64 1, .int .i64 s] [] = some (.int .i64 s, [.no], []) := by
  have h := divisor_L (chk := chk) s h1 h2
  have hs0 : ¬ s = 0 := by omega
  have h10 : ¬ (1 : Int) = 0 := by decide
  have w1 : IntKind.i64.wrap (s.tdiv 1) = s := by rw [Int.tdiv_one]; exact wrap64 _ (by omega) (by omega)
  have w2 : IntKind.i64.wrap (1 * s) = s := by rw [Int.one_mul]; exact wrap64 _ (by omega) (by omega)
  have w4 : IntKind.i64.wrap s = s := wrap64 _ (by omega) (by omega)
  have hq : 1 ≤ (4611686018427387904 : Int).tdiv s := by
    rw [Int.tdiv_eq_ediv_of_nonneg (by decide)]
    exact Int.le_ediv_of_mul_le (by omega) (by omega)
  have hq2 : (4611686018427387904 : Int).tdiv s ≤ 4611686018427387904 := by
    rw [Int.tdiv_eq_ediv_of_nonneg (by decide)]
    exact Int.ediv_le_self _ (by decide)
  have w3 : IntKind.i64.wrap ((4611686018427387904 : Int).tdiv s) = (4611686018427387904 : Int).tdiv s := wrap64 _ (by omega) (by omega)
  have w5 : ¬ (4611686018427387904 : Int).tdiv s < 1 := by omega
  clear hq hq2
  exact cWy 18 4 Tryz.func84
theorem size_L (a : Int) (h1 : -1000000 ≤ a) (h2 : a ≤ 1000000) : callL Tryz.prog (ext11b chk) 85 [.int .i64 a] [] = some (.int .i64 (max a (-a)), [.no], []) := by
  have c1 : ¬ a < -4611686018427387904 := by omega
  have c2 : ¬ 4611686018427387904 < a := by omega
  have w1 : IntKind.i64.wrap (0 - a) = -a := by rw [wrap64 _ (by omega) (by omega)]; omega
  exact cWy 13 2 Tryz.func85
def headF (a b : Int) : Int := max 0 (if 0 < a then max (min b (b - 1)) 0 else b)
def roundF (a : Int) : Int := if a = 0 then 1 else max a (-a)
set_option maxHeartbeats 4000000 in
theorem span_L (a b : Int) (ha : -1000000 ≤ a ∧ a ≤ 1000000) (hb : -1000000 ≤ b ∧ b ≤ 1000000) : callL Tryz.prog (ext11b chk) 61 [.list [.agg [.int .i64 a, .int .i64 b]]] [] = some (.tuple [.int .i64 (headF a b), .int .i64 (roundF a)], [.no, .no], []) := by
  have hs := size_L (chk := chk) a ha.1 ha.2
  have hm : min b 4611686018427387904 = b := by omega
  have w1 : IntKind.i64.wrap (b - 1) = b - 1 := wrap64 _ (by omega) (by omega)
  have wz : IntKind.i64.wrap (((0 : Nat) : Int) + 1) = ((1 : Nat) : Int) := wrap64 _ (by decide) (by decide)
  have cm : a ≠ 0 → callL Tryz.prog (ext11b chk) 84 [.int .i64 1, .int .i64 (max a (-a))] [] = some (.int .i64 (max a (-a)), [.no], []) := fun h => common_L (chk := chk) (max a (-a)) (by omega) (by omega)
  have HCM := Hd.mk cm
  clear cm ha hb
  unfold headF roundF
  refine callK (P := Tryz.prog) (m := 39) (res := [2, 3]) (rs := [.tmp 2, .tmp 3]) rfl Tryz.func61 rfl rfl rfl rfl rfl ?_
  refine Gy ?_
  refine loopH (fun t => ∃ i : Nat, i ≤ 1 ∧ t.slot 9 = .int .i64 i ∧ t.slot 8 = .int .i64 1 ∧ t.slot 7 = .list [.agg [.int .i64 a, .int .i64 b]] ∧ t.slot 2 = .int .i64 (if i = 0 then 0 else max 0 (if 0 < a then max (min b (b - 1)) 0 else b)) ∧ t.slot 3 = .int .i64 (if i = 0 then 1 else if a = 0 then 1 else max a (-a))) (fun t => 1 - slotI t 9) ?_ ?_
  · exact ⟨0, Nat.zero_le _, Iy, Iy, Iy, Iy, Iy⟩
  · rintro t K ⟨i, hi, g9, g8, g7, g2, g3⟩ hn hx hr
    rcases Nat.le_one_iff_eq_zero_or_eq_one.1 hi with rfl | rfl
    · rw [if_pos rfl] at g2 g3
      have k9 : ((0 : Nat) : Int) < 1 := by decide
      have k8 : ((0 : Nat) : Int) < ((1 : Nat) : Int) := by decide
      clear hi hx hr
      by_cases h0 : a = 0
      · subst h0
        clear HCM hs
        have c0 : ¬ (0 : Int) < 0 := by decide
        have cz : ((0 : Int) != 0) = false := by decide
        refine Gy ?_
        refine hn _ ⟨1, by decide, L, L, L, ?_, ?_⟩ (by simp only [slotI, *, AVB, AVY, ↓reduceIte, Nat.reduceEqDiff, Nat.reduceLT, Nat.reduceLeDiff, reduceCtorEq, Nat.reduceBEq, String.reduceBEq, Nat.reduceAdd, Nat.reduceSub, Nat.reduceMul, Int.reduceLE, Int.reduceLT, Int.reduceToNat, Int.reduceBEq, Int.reduceBNe, List.zipWith, dIntBin])
        · rw [if_neg (by decide), if_neg (by decide)]
          exact Wy
        · rw [if_neg (by decide), if_pos rfl]
          exact Wy
      · have cz : (a != 0) = true := by simpa using h0
        have hc := (show a ≠ 0 → callL Tryz.prog (ext11b chk) 84 [.int .i64 1, .int .i64 (max a (-a))] [] = some (.int .i64 (max a (-a)), [.no], []) from HCM) h0
        clear HCM
        by_cases h1 : 0 < a
        · refine Gy ?_
          refine hn _ ⟨1, by decide, L, L, L, ?_, ?_⟩ (by simp only [slotI, *, AVB, AVY, ↓reduceIte, Nat.reduceEqDiff, Nat.reduceLT, Nat.reduceLeDiff, reduceCtorEq, Nat.reduceBEq, String.reduceBEq, Nat.reduceAdd, Nat.reduceSub, Nat.reduceMul, Int.reduceLE, Int.reduceLT, Int.reduceToNat, Int.reduceBEq, Int.reduceBNe, List.zipWith, dIntBin])
          · rw [if_neg (by decide), if_pos h1]
            exact Wy
          · rw [if_neg (by decide), if_neg h0]
            exact Wy
        · refine Gy ?_
          refine hn _ ⟨1, by decide, L, L, L, ?_, ?_⟩ (by simp only [slotI, *, AVB, AVY, ↓reduceIte, Nat.reduceEqDiff, Nat.reduceLT, Nat.reduceLeDiff, reduceCtorEq, Nat.reduceBEq, String.reduceBEq, Nat.reduceAdd, Nat.reduceSub, Nat.reduceMul, Int.reduceLE, Int.reduceLT, Int.reduceToNat, Int.reduceBEq, Int.reduceBNe, List.zipWith, dIntBin])
          · rw [if_neg (by decide), if_neg h1]
            exact Wy
          · rw [if_neg (by decide), if_neg h0]
            exact Wy
    · rw [if_neg (by decide)] at g2 g3
      have k9 : ¬ ((1 : Nat) : Int) < 1 := by decide
      clear hn hr HCM hs hi
      generalize max 0 (if 0 < a then max (min b (b - 1)) 0 else b) = X at *
      generalize (if a = 0 then (1 : Int) else max a (-a)) = Y at *
      refine Gy ?_
      refine hx _ _ ?_
      clear hx
      exact Wy
def foldF (h r n : Int) : Int := if r < 1 ∨ n - h ≤ r then n else h + 1 + (n - h - 1) % r
theorem fold_L (h r n : Int) (h1 : 0 ≤ h ∧ h ≤ 1000000) (h2 : 1 ≤ r ∧ r ≤ 1000000) (h3 : 0 ≤ n ∧ n ≤ 2199023255552) : callL Tryz.prog (ext11b chk) 62 [.int .i64 h, .int .i64 r, .int .i64 n] [] = some (.int .i64 (foldF h r n), [.no], []) := by
  have c1 : ¬ r < 1 := by omega
  have w1 : IntKind.i64.wrap (n - h) = n - h := wrap64 _ (by omega) (by omega)
  unfold foldF
  by_cases c2 : n - h ≤ r
  · rw [if_pos (.inr c2)]
    exact cWy 26 6 Tryz.func62
  · rw [if_neg (by omega)]
    have hr0 : ¬ r = 0 := by omega
    have w2 : IntKind.i64.wrap (h + 1) = h + 1 := wrap64 _ (by omega) (by omega)
    have w3 : IntKind.i64.wrap (n - h - 1) = n - h - 1 := wrap64 _ (by omega) (by omega)
    have t1 : (n - h - 1).tmod r = (n - h - 1) % r := Int.tmod_eq_emod_of_nonneg (by omega)
    have m1 := Int.emod_nonneg (n - h - 1) hr0
    have m2 := Int.emod_lt_of_pos (n - h - 1) (show 0 < r by omega)
    have w4 : IntKind.i64.wrap (h + 1 + (n - h - 1) % r) = h + 1 + (n - h - 1) % r := wrap64 _ (by omega) (by omega)
    clear m1 m2
    exact cWy 26 6 Tryz.func62
theorem head_bd {a b : Int} (ha : -1000000 ≤ a ∧ a ≤ 1000000) (hb : -1000000 ≤ b ∧ b ≤ 1000000) : (0 ≤ headF a b ∧ headF a b ≤ 1000000) ∧ 1 ≤ roundF a ∧ roundF a ≤ 1000000 := by
  unfold headF roundF
  refine ⟨?_, ?_⟩
  · split <;> omega
  · split <;> omega
theorem next_L (c : Ct) (ha : -1000000 ≤ c.a ∧ c.a ≤ 1000000) (hb : -1000000 ≤ c.b ∧ c.b ≤ 1000000) (n : Int) (hn : 0 ≤ n ∧ n ≤ 1099511627776) : callL Tryz.prog (ext11b chk) 38 [c.d, .int .i64 n] [] = some (.int .i64 (foldF (headF c.a c.b) (roundF c.a) (n + 1)), [.no], []) := by
  obtain ⟨hh, hr⟩ := head_bd ha hb
  have h1 := span_L (chk := chk) c.a c.b ha hb
  have h2 := fold_L (chk := chk) (headF c.a c.b) (roundF c.a) (n + 1) hh hr (by omega)
  have w1 : IntKind.i64.wrap (n + 1) = n + 1 := wrap64 _ (by omega) (by omega)
  have hd : c.d = .agg [.int .i64 c.a, .int .i64 c.b, .list (c.rows.map (.int .i64))] := rfl
  rw [hd]
  generalize foldF (headF c.a c.b) (roundF c.a) (n + 1) = R at *
  generalize headF c.a c.b = H at *
  generalize roundF c.a = Q at *
  clear hh hr ha hb hn hd
  exact cWy 19 4 Tryz.func38
end Go.Av
namespace Go.Av
open Go.Proofs
variable [Rk] {chk : List D → Bool}
def keptR (r : Rw) : List Int := (List.range r.steps.length).map fun i => match r.steps[i + 1]? with | some x => x.1 | none => 0
def keptF (l : List Rw) : List Int := l.flatMap keptR
theorem keptF_take {l : List Rw} {i : Nat} {r : Rw} (h : l[i]? = some r) : keptF (l.take (i + 1)) = keptF (l.take i) ++ keptR r := by
  unfold keptF
  rw [List.take_add_one, h, List.flatMap_append]
  simp
def keptI (r : Rw) (j : Nat) : List Int := (List.range j).map fun i => match r.steps[i + 1]? with | some x => x.1 | none => 0
theorem keptI_succ (r : Rw) (j : Nat) : keptI r (j + 1) = keptI r j ++ [match r.steps[j + 1]? with | some x => x.1 | none => 0] := by
  unfold keptI
  rw [List.range_succ, List.map_append]
  rfl
theorem keptF_bd (l : List Rw) (i : Nat) : (keptF (l.take i)).length ≤ (keptF l).length := by
  have : keptF l = keptF (l.take i) ++ keptF (l.drop i) := by unfold keptF; rw [← List.flatMap_append, List.take_append_drop]
  rw [this, List.length_append]
  omega
set_option maxHeartbeats 8000000 in
theorem kept_L (as_ cts ls : List D) (st : Int) (l : List Rw) (hl : l.length ≤ 1000000) (hk : (keptF l).length ≤ 1000000) : callL Tryz.prog (ext11b chk) 34 [.agg [.list as_, .list (l.map Rw.d), .list cts, .list ls, .int .i64 st]] [] = some (.list (dI (keptF l)), [rmE 3 (keptF l).length], []) := by
  have lN := lenM l Rw.d
  have hb := fun i => keptF_bd l i
  have hbs := fun (i : Nat) (r : Rw) (h : l[i]? = some r) => keptF_take h
  have HB := Hd.mk hb
  have HT := Hd.mk hbs
  have HL := Hd.mk hl
  have HK := Hd.mk hk
  clear hb hbs hl hk
  obtain ⟨R, hR⟩ : ∃ R, Hd (R = keptF l) := ⟨_, rfl⟩
  rw [← (show R = keptF l from hR)]
  refine cK 41 2 Tryz.func34 ?_
  refine Gy ?_
  refine loopH (fun s => ∃ i : Nat, i ≤ l.length ∧ s.slot 9 = .int .i64 i ∧ s.slot 8 = .int .i64 (l.length : Nat) ∧ s.slot 7 = .list (l.map Rw.d) ∧ s.slot 2 = .list (dI (keptF (l.take i))) ∧ s.room 2 = [rmE 3 (keptF (l.take i)).length]) (fun s => l.length - slotI s 9) ?_ ?_
  · have z1 : dI (keptF (l.take 0)) = [] := rfl
    have z2 : rmE 3 (keptF (l.take 0)).length = .full := rfl
    exact ⟨0, Nat.zero_le _, Iy, Iy, Iy, Iy, Iy⟩
  · rintro s K ⟨i, hi, g9, g8, g7, g2, r2⟩ hn hx hr
    have hl : l.length ≤ 1000000 := HL
    have hk : (keptF l).length ≤ 1000000 := HK
    by_cases hlt : i < l.length
    · obtain ⟨r, hrl⟩ : ∃ r, l[i]? = some r := ⟨l[i], List.getElem?_eq_getElem hlt⟩
      have hlt' : (i : Int) < l.length := by omega
      have hw1 := wrapS i (by omega)
      have f1 : keptF (l.take (i + 1)) = keptF (l.take i) ++ keptR r := (show ∀ (i : Nat) (r : Rw), l[i]? = some r → keptF (l.take (i + 1)) = keptF (l.take i) ++ keptR r from HT) i r hrl
      have hbd : (keptF (l.take (i + 1))).length ≤ (keptF l).length := (show ∀ i, (keptF (l.take i)).length ≤ (keptF l).length from HB) (i + 1)
      rw [f1, List.length_append] at hbd
      have hkl : (keptR r).length = r.steps.length := by unfold keptR; rw [List.length_map, List.length_range]
      have hgd : (l.map Rw.d).getD i .bad = .agg [.int .i64 (r.first : Nat), .list (r.steps.map stpD), .str r.ps] := getD_map (f := Rw.d) hrl
      have lS : ((r.steps.map stpD).length : Int) = r.steps.length := by rw [List.length_map]
      generalize keptF (l.take i) = A at *
      have hAb : A.length + r.steps.length ≤ 1000000 := by omega
      have HF := Hd.mk f1
      have HAB := Hd.mk hAb
      clear hrl hl hk hr hx f1 hbd hkl HT HB hAb
      refine Gy ?_
      refine loopH (fun t => ∃ j : Nat, j ≤ r.steps.length ∧ t.slot 16 = .int .i64 j ∧ t.slot 15 = .int .i64 (r.steps.length : Nat) ∧ t.slot 9 = .int .i64 i ∧ t.slot 8 = .int .i64 (l.length : Nat) ∧ t.slot 7 = .list (l.map Rw.d) ∧ t.slot 4 = .ptr 4 (s.ctr 4) 0 ∧ (∃ rs, t.box 4 = some ⟨s.ctr 4, [.int .i64 (r.first : Nat), .list (r.steps.map stpD), .str r.ps], rs⟩) ∧ t.slot 2 = .list (dI (A ++ keptI r j)) ∧ t.room 2 = [rmE 3 (A ++ keptI r j).length]) (fun t => r.steps.length - slotI t 16) ?_ ?_
      · have z1 : A ++ keptI r 0 = A := List.append_nil A
        refine ⟨0, Nat.zero_le _, Iy, Iy, Iy, Iy, Iy, Iy, ⟨_, Iy⟩, by rw [z1]; exact Iy, by rw [z1]; exact Iy⟩
      · rintro t K2 ⟨j, hj, f16, f15, f9, f8, f7, f4, ⟨rs, fb⟩, f2, fr⟩ hn2 hx2 hr2
        have hAb : A.length + r.steps.length ≤ 1000000 := HAB
        have hkl : (keptI r j).length = j := by unfold keptI; rw [List.length_map, List.length_range]
        by_cases hlt2 : j < r.steps.length
        · have hlt2' : (j : Int) < r.steps.length := by omega
          have hw2 := wrapS j (by omega)
          have f1 := keptI_succ r j
          have e4 : (dI (A ++ keptI r j)).length + 1 ≤ 1073741824 := by unfold dI; rw [List.length_map, List.length_append, hkl]; omega
          have e5 : szOk 1 (dI (A ++ keptI r j)) = true := szOk_map _ 1 (fun _ => rfl) _
          have e6 : ∀ z : Int, rmE 3 (A ++ (keptI r j ++ [z])).length = .own 3 := fun z => by unfold rmE; rw [if_neg (by simp)]
          have e7 := rmE_ok 3 (A ++ keptI r j).length
          have e8 : ∀ z : Int, dI (A ++ (keptI r j ++ [z])) = dI (A ++ keptI r j) ++ [.int .i64 z] := fun z => by unfold dI; rw [← List.append_assoc, List.map_append]; rfl
          clear hn hr2 hx2 hAb hkl HF HAB HL HK hR g9 g8 g7 g2 r2
          generalize rmE 3 (A ++ keptI r j).length = r0 at *
          cases hz : r.steps[j + 1]? with
          | none =>
            rw [hz] at f1
            have hge2 : ¬ ((j + 1 : Nat) : Int) < r.steps.length := by have := List.getElem?_eq_none_iff.1 hz; omega
            dsimp only at f1
            have e9 := e8 0
            have e10 := e6 0
            clear e8 e6 hz
            rcases e7 with rfl | rfl
            · refine Gy ?_
              exact hn2 _ ⟨j + 1, hlt2, L, L, L, L, L, L, ⟨rs, L⟩, by rw [f1, e9]; exact Wy, by rw [f1, e10]; exact Wy⟩ Zy
            · refine Gy ?_
              exact hn2 _ ⟨j + 1, hlt2, L, L, L, L, L, L, ⟨rs, L⟩, by rw [f1, e9]; exact Wy, by rw [f1, e10]; exact Wy⟩ Zy
          | some z =>
            rw [hz] at f1
            have hge2 : ((j + 1 : Nat) : Int) < r.steps.length := by have := (List.getElem?_eq_some_iff.1 hz).1; omega
            have hgz : (r.steps.map stpD).getD (j + 1) .bad = .agg [.int .i64 z.1, .list z.2] := getD_map (f := stpD) hz
            dsimp only at f1
            have e9 := e8 z.1
            have e10 := e6 z.1
            clear e8 e6 hz
            rcases e7 with rfl | rfl
            · refine Gy ?_
              exact hn2 _ ⟨j + 1, hlt2, L, L, L, L, L, L, ⟨rs, L⟩, by rw [f1, e9]; exact Wy, by rw [f1, e10]; exact Wy⟩ Zy
            · refine Gy ?_
              exact hn2 _ ⟨j + 1, hlt2, L, L, L, L, L, L, ⟨rs, L⟩, by rw [f1, e9]; exact Wy, by rw [f1, e10]; exact Wy⟩ Zy
        · have hge2 : ¬ (j : Int) < r.steps.length := by omega
          have hjl : j = r.steps.length := by omega
          have f1 : keptF (l.take (i + 1)) = A ++ keptI r j := by rw [hjl]; exact HF
          clear hjl
          refine Gy ?_
          refine hx2 _ _ ?_
          clear hx2 hr2 hn2
          refine Gy ?_
          exact hn _ ⟨i + 1, by omega, L, L, L, by rw [f1]; exact Wy, by rw [f1]; exact Wy⟩ Zy
    · have hge : ¬ (i : Int) < l.length := by omega
      rw [List.take_of_length_le (by omega), ← (show R = keptF l from hR)] at g2 r2
      refine Gy ?_
      exact hx _ _ Wy
end Go.Av
namespace Go.Av
def PInv (p : Pn) : Prop := (∀ c ∈ p.cts, smallB c.a = true ∧ smallB c.b = true ∧ c.rows.length ≤ 100) ∧ (∀ r ∈ p.rows, r.first + r.steps.length ≤ p.steps) ∧ (keptF p.rows).length = p.steps
theorem PInv.zero : PInv pn0 := ⟨fun c h => (by cases h), fun c h => (by cases h), rfl⟩
theorem PInv.atom {p : Pn} (h : PInv p) (a : Atm) : PInv (atomP a p).2 := by
  unfold atomP
  split
  · exact h
  · exact h
theorem PInv.elem {p : Pn} (h : PInv p) (nm : Nam) (name : List UInt8) (ns : Int) (pre : List UInt8) : PInv (elemP nm name ns pre p).2 := by
  unfold elemP
  split
  · exact h
  · exact h.atom _
theorem PInv.term {L : List D → Pn → List Int × Pn} {nm : Nam} {s : Sf} {p : Pn} (h : PInv p) (hL : PInv (L s.of_ p).2) (hl : (L s.of_ p).1.length ≤ 100) (h7 : s.kd = 7 → smallB s.a = true ∧ smallB s.b = true) : PInv (termP L nm s p).2 := by
  unfold termP
  split
  · exact h.elem _ _ _ _
  split
  · exact h.atom _
  split
  · exact h.atom _
  split
  · exact h.atom _
  split
  · exact h.atom _
  split
  · exact h
  split
  · exact hL
  split
  · exact hL
  split
  · rename_i c
    obtain ⟨k1, k2⟩ := h7 c
    refine ⟨fun x hx => ?_, hL.2.1, hL.2.2⟩
    rcases List.mem_append.1 hx with hx | hx
    · exact hL.1 x hx
    · rw [List.mem_singleton.1 hx]
      exact ⟨k1, k2, hl⟩
  split
  · exact ((h.elem _ _ _ _).elem _ _ _ _).atom _
  · exact h
theorem PInv.row {T : D → Pn → D × Pn} {c : D} {p : Pn} (h : PInv p) (hT : ∀ x ∈ cxL c, ∀ s ∈ cpL x, ∀ p, PInv p → PInv (T s p).2) : PInv (rowP T c p).2 := by
  have h1 := (mapP_all (f := compP T) (I := PInv) (Q := fun _ => True) (cxL c) p (fun x hx p hp => ⟨(mapP_all (f := T) (I := PInv) (Q := fun _ => True) (cpL x) p (fun s hs p hp => ⟨hT x hx s hs p hp, trivial⟩) hp).1, trivial⟩) h).1
  have hl := mapP_len (compP T) (cxL c) p
  unfold rowP endP
  generalize mapP (compP T) (cxL c) p = A at *
  obtain ⟨a, q⟩ := A
  dsimp only at *
  refine ⟨h1.1, fun r hr => ?_, ?_⟩
  · rcases List.mem_append.1 hr with hr | hr
    · have := h1.2.1 r hr
      show _ ≤ q.steps + _
      omega
    · rw [List.mem_singleton.1 hr]
      show q.steps + a.length ≤ q.steps + _
      omega
  · show (keptF (q.rows ++ [_])).length = q.steps + _
    unfold keptF
    rw [List.flatMap_append, List.length_append]
    have := h1.2.2
    unfold keptF at this
    rw [this]
    simp [keptR, hl]
theorem PInv.list_of {nm : Nam} {k : Nat} (hT : ∀ (s : D) (p : Pn), smOk 100 k s = true → abS k s → PInv p → PInv (termK nm k (sf s) p).2) {l : List D} {p : Pn} (h : PInv p) (hl : lsOk 100 (smOk 100 k) l = true) (ha : abL k l) : PInv (listP nm k l p).2 := by
  obtain ⟨l1, l2⟩ := lsOk_mem hl
  refine (mapP_all (f := rowP fun s p => termK nm k (sf s) p) (I := PInv) (Q := fun _ => True) l p (fun c hc p hp => ⟨hp.row fun x hx s hs p hp => ?_, trivial⟩) h).1
  obtain ⟨xs, rfl, f1, f2⟩ := cxOk_inv (l2 c hc)
  obtain ⟨cb, ss, rfl, f3, f4⟩ := cpOk_inv (f2 x hx)
  exact hT s p (f4 s hs) (ha _ hc _ hx s hs) hp
theorem PInv.termK {nm : Nam} : ∀ (k : Nat) (s : D) (p : Pn), smOk 100 k s = true → abS k s → PInv p → PInv (termK nm k (sf s) p).2
  | 0, s, p, _, _, h => h
  | k + 1, s, p, hs, ha, h => by
    obtain ⟨e, h1, h2, h3, h4⟩ := smOk_inv hs
    rw [termK_succ]
    refine h.term (PInv.list_of (fun s p => PInv.termK k s p) h h4 ha.2) ?_ ha.1
    have := mapP_len (rowP fun s p => Go.Av.termK nm k (sf s) p) (sf s).of_ p
    have := (lsOk_mem h4).1
    unfold listP
    omega
theorem make_inv {nm : Nam} {k : Nat} {ls : List (List D)} (hl : ∀ l ∈ ls, lsOk 100 (smOk 100 k) l = true) (ha : ∀ l ∈ ls, abL k l) : PInv (makeF nm k ls).2 :=
  (mapP_all (f := listP nm k) (I := PInv) (Q := fun _ => True) ls pn0 (fun l h p hp => ⟨PInv.list_of (PInv.termK k) hp (hl l h) (ha l h), trivial⟩) PInv.zero).1
theorem make_sz (nm : Nam) (k : Nat) (ls : List (List D)) : (makeF nm k ls).2.sz ≤ (ls.map fun l => 3 * costL k l).sum := by
  have := mapP_sz (f := listP nm k) (g := fun l => 3 * costL k l) ls pn0 fun l _ p => listP_sz nm k l p
  have e : pn0.sz = 0 := rfl
  unfold makeF
  omega
end Go.Av
namespace Go.Av
section
variable {C : List D → Int} {bad : D → Bool} {most : Int} {K : D → Nat}
theorem cntX_sum : ∀ (l : List D) (n r : Int), cntX C bad most l n = some r → r ≤ most → (∀ s ∈ l, (K s : Int) ≤ 1 + C (sf s).of_) → n + (costX K l : Nat) ≤ r
  | [], n, r, h, hr, hk => by
    simp only [cntX, Option.some.injEq] at h
    simp [costX]; omega
  | s :: l, n, r, h, hr, hk => by
    unfold cntX at h
    split at h
    · split at h
      · cases h
      · have h1 := cntX_sum l _ _ h hr fun t ht => hk t (List.mem_cons_of_mem _ ht)
        have h2 := hk s (List.mem_cons_self ..)
        unfold costX at *
        rw [List.map_cons, List.sum_cons]
        omega
    · simp only [Option.some.injEq] at h; omega
theorem cntP_sum (hC : ∀ l, 0 ≤ C l) : ∀ (l : List D) (n r : Int), cntP C bad most l n = some r → r ≤ most → (∀ x ∈ l, ∀ s ∈ cpL x, (K s : Int) ≤ 1 + C (sf s).of_) → n + (costP K l : Nat) ≤ r + l.length
  | [], n, r, h, hr, hk => by
    simp only [cntP, Option.some.injEq] at h
    simp [costP]; omega
  | x :: l, n, r, h, hr, hk => by
    unfold cntP at h
    split at h
    · obtain ⟨m, h1, h2⟩ := Option.bind_eq_some_iff.1 h
      have h4 := cntP_le hC l _ _ h2
      have h5 := cntX_sum _ _ _ h1 (by omega) fun t ht => hk x (List.mem_cons_self ..) t ht
      have h6 := cntP_sum hC l _ _ h2 hr fun y hy => hk y (List.mem_cons_of_mem _ hy)
      unfold costP at *
      rw [List.map_cons, List.sum_cons, List.length_cons]
      omega
    · simp only [Option.some.injEq] at h; omega
theorem cntC_sum (hC : ∀ l, 0 ≤ C l) : ∀ (l : List D) (n r : Int), cntC C bad most l n = some r → r ≤ most → (∀ c ∈ l, ∀ x ∈ cxL c, ∀ s ∈ cpL x, (K s : Int) ≤ 1 + C (sf s).of_) → n + (costC K l : Nat) ≤ r + l.length
  | [], n, r, h, hr, hk => by
    simp only [cntC, Option.some.injEq] at h
    simp [costC]; omega
  | x :: l, n, r, h, hr, hk => by
    unfold cntC at h
    split at h
    · obtain ⟨m, h1, h2⟩ := Option.bind_eq_some_iff.1 h
      have h4 := cntC_le hC l _ _ h2
      have h5 := cntP_sum hC _ _ _ h1 (by omega) fun y hy => hk x (List.mem_cons_self ..) y hy
      have h6 := cntC_sum hC l _ _ h2 hr fun y hy => hk y (List.mem_cons_of_mem _ hy)
      unfold costC at *
      rw [List.map_cons, List.sum_cons, List.length_cons]
      omega
    · simp only [Option.some.injEq] at h; omega
end
theorem cnt_cost {most : Int} (hm : 0 ≤ most) (hm2 : most ≤ 100) {m : Nat} : ∀ (f : Nat) (l : List D) (d g : Nat), d + g = 41 → lsOk m (smOk m f) l = true → cnt most (f + 1) l d ≤ most → (costL g l : Int) ≤ cnt most (f + 1) l d
  | f, l, d, g, hd, hk, hc => by
    unfold cnt at hc ⊢
    cases h : cntC (fun of_ => cnt most f of_ ((d : Int) + 1)) (badS d) most l l.length with
    | none => rw [h] at hc; simp at hc; omega
    | some r =>
      rw [h] at hc
      simp only [Option.getD_some] at hc ⊢
      have hC : ∀ l, 0 ≤ (fun of_ => cnt most f of_ ((d : Int) + 1)) l := fun l => cnt_nonneg hm f l _
      obtain ⟨h1, h2⟩ := cntC_ok hC _ _ _ (by omega) h hc
      have h3 := cntC_sum (K := costS g) hC _ _ _ h hc fun c hcm x hx s hs => by
        obtain ⟨k1, k2⟩ := (h2 c hcm).2 x hx
        obtain ⟨k3, k4⟩ := k2 s hs
        obtain ⟨l1, l2⟩ := lsOk_mem hk
        obtain ⟨xs, rfl, _, hxs⟩ := cxOk_inv (l2 c hcm)
        obtain ⟨k, ss, rfl, _, hss⟩ := cpOk_inv (hxs x hx)
        match f, hss s hs, k4 with
        | 0, hz, _ => simp [smOk] at hz
        | f + 1, hz, k4 =>
          obtain ⟨e, _, _, _, ho⟩ := smOk_inv hz
          match g, hd with
          | 0, hd =>
            have := cnt_nonneg hm (f + 1) (sf s).of_ ((d : Int) + 1)
            show ((0 : Nat) : Int) ≤ 1 + cnt most (f + 1) (sf s).of_ ((d : Int) + 1)
            omega
          | g + 1, hd =>
            have h9 := cnt_cost hm hm2 f (sf s).of_ (d + 1) g (by omega) ho (by simpa using k4)
            show ((1 + costC (costS g) (sf s).of_ : Nat) : Int) ≤ 1 + cnt most (f + 1) (sf s).of_ ((d : Int) + 1)
            have h10 : (costL g (sf s).of_ : Int) ≤ cnt most (f + 1) (sf s).of_ ((d : Int) + 1) := by simpa using h9
            unfold costL at h10
            omega
      unfold costL
      omega
end Go.Av
namespace Go.Av
open Go.Proofs
abbrev rkN : Rk := ⟨noExt⟩
noncomputable def call0 : Call := callL Tryz.prog (@ext11b rkN fun _ => false)
def extSp : Call := fun f args pbs => match f, args, pbs with
  | 6, [], [] => some (.bool true, [], [])
  | _, _, _ => none
noncomputable abbrev rk1 : Rk := ⟨fun f args pbs => if f = 6 then extSp f args pbs else if f = 33 then extBl f args pbs else if f = 12 then extOr f args pbs else extDN call0 f args pbs⟩
theorem orL_dB (a m : List Bool) : orL (dB a) (dB m) = dB (orB a m) := by
  unfold orL orB
  conv => rhs; unfold dB
  rw [List.map_map, show (dB a).length = a.length by unfold dB; rw [List.length_map]]
  exact List.map_congr_left fun i _ => by rw [atD_dB, atD_dB]; rfl
theorem dB_len (l : List Bool) : (dB l).length = l.length := by unfold dB; rw [List.length_map]
theorem dI_len (l : List Int) : (dI l).length = l.length := by unfold dI; rw [List.length_map]
theorem ct_all (l : List Ct) : (l.map Ct.d).all isCt = true := by rw [List.all_map]; exact List.all_eq_true.2 fun _ _ => rfl
theorem or_E {chk : List D → Bool} (a m : List Bool) (h : a.length ≤ 200) : callL Tryz.prog (@ext11b rk1 chk) 12 [.list (dB a), .list (dB m)] [] = some (.list (dB (orB a m)), [], []) := by
  letI : Rk := rk1
  refine callL_ext (@ext_r rk1 chk _ _ _ _ rfl ?_)
  show extOr 12 [.list (dB a), .list (dB m)] [] = _
  simp only [extOr]
  rw [if_pos ⟨isB_dB a, isB_dB m, smallI_of (by rw [dB_len]; omega)⟩, orL_dB]
theorem down_E {chk : List D → Bool} {p : Pn} {r : List D} {kept : List Int} {rm : List Room} (hk : call0 34 [planD p r] [] = some (.list (dI kept), rm, [])) (h1 : p.steps ≤ 1000000) (h2 : p.cts.length ≤ 1000000) (h3 : kept.length ≤ 1000000) (rt : Bool) (up left tr : List Bool) (ns : List Int) :
    callL Tryz.prog (@ext11b rk1 chk) 13 [planD p r, .agg [.bool rt, .list (dB up), .list (dB left), .list (dI ns)], .list (dB tr)] [] = some (.agg [.bool false, .list (dB (tellB 1 2 p.steps kept up tr)), .list (dB (List.replicate p.steps false)), .list (dI (List.replicate p.cts.length 0))], [], []) := by
  letI : Rk := rk1
  refine callL_ext (@ext_r rk1 chk _ _ _ _ rfl ?_)
  show extDN call0 13 [planD p r, .agg [.bool rt, .list (dB up), .list (dB left), .list (dI ns)], .list (dB tr)] [] = _
  unfold planD at *
  simp only [extDN, hk]
  rw [if_pos ⟨smallI_of h1, smallI_of (by rw [List.length_map]; exact h2), isI_dI _, isB_dB _, isB_dB _, smallI_of (by rw [dI_len]; exact h3)⟩]
  unfold downD ctxD
  rw [show ((p.steps : Nat) : Int).toNat = p.steps from rfl, tellL_dB, falses_dB, List.length_map, zeros_dI]
theorem next_E {chk : List D → Bool} {p : Pn} {r : List D} {kept : List Int} {rm : List Room} (hk : call0 34 [planD p r] [] = some (.list (dI kept), rm, [])) (h1 : p.steps ≤ 1000000) (h2 : p.cts.length ≤ 1000000) (h3 : kept.length ≤ 1000000) (rt : Bool) (up left tr : List Bool) (ns zs : List Int)
    (hz : numsD call0 (planD p r) (.list (dB tr)) (dI ns) 0 (p.cts.map Ct.d) = some (dI zs)) :
    callL Tryz.prog (@ext11b rk1 chk) 14 [planD p r, .agg [.bool rt, .list (dB up), .list (dB left), .list (dI ns)], .list (dB tr)] [] = some (.agg [.bool false, .list (dB (copyB p.steps up)), .list (dB (tellB 4 3 p.steps kept left tr)), .list (dI zs)], [], []) := by
  letI : Rk := rk1
  refine callL_ext (@ext_r rk1 chk _ _ _ _ rfl ?_)
  show extDN call0 14 [planD p r, .agg [.bool rt, .list (dB up), .list (dB left), .list (dI ns)], .list (dB tr)] [] = _
  unfold planD at *
  simp only [extDN, hk, hz]
  rw [if_pos ⟨smallI_of h1, smallI_of (by rw [List.length_map]; exact h2), isI_dI _, isB_dB _, isB_dB _, isB_dB _, isI_dI _, ct_all _, smallI_of (by rw [dI_len]; exact h3)⟩]
  unfold nextD ctxD
  rw [show ((p.steps : Nat) : Int).toNat = p.steps from rfl, tellL_dB, copyL_dB]
theorem monoC_of {chk : List D → Bool} {p : Pn} {r LS : List D} {nc : D} (h9 : callL Tryz.prog (@ext11b rk1 chk) 9 [.list LS, nc] [] = some (.tuple [planD p r, .bool true], [.no, .no], [])) (hI : PInv p) (hsz : p.sz ≤ 1000000) (rt : Bool) (up left tr more : List Bool) (ns : List Int)
    (l1 : up.length ≤ 200) (l2 : left.length ≤ 200) (hns : ∀ n ∈ ns, 0 ≤ n ∧ n ≤ 1099511627776) : @MonoC rk1 chk LS nc rt (dB up) (dB left) (dI ns) (dB tr) (dB more) := by
  letI : Rk := rk1
  have hs : p.rows.length ≤ 1000000 ∧ p.cts.length ≤ 1000000 ∧ p.steps ≤ 1000000 := by unfold Pn.sz at hsz; omega
  obtain ⟨i1, i2, i3⟩ := hI
  have hk : call0 34 [planD p r] [] = some (.list (dI (keptF p.rows)), _, []) := @kept_L rkN (fun _ => false) (p.atoms.map Atm.d) (p.cts.map Ct.d) r p.steps p.rows hs.1 (by omega)
  obtain ⟨zs, hz, hzl⟩ := numsD_some (call := call0) (p := planD p r) (tr := .list (dB tr)) hns (p.cts.map Ct.d) 0 (fun c hc => by
    obtain ⟨ct, hct, rfl⟩ := List.mem_map.1 hc
    exact ⟨_, _, @counts_L rkN (fun _ => false) (p.atoms.map Atm.d) p.rows (p.cts.map Ct.d) r p.steps false [] [] [] [] tr (fun r hr => by have := i2 r hr; omega) ct (by have := (i1 ct hct).2.2; omega)⟩) (fun c hc n n0 n1 => by
    obtain ⟨ct, hct, rfl⟩ := List.mem_map.1 hc
    exact ⟨_, _, @next_L rkN (fun _ => false) ct (smallB_iff (i1 ct hct).1) (smallB_iff (i1 ct hct).2.1) n ⟨n0, n1⟩⟩)
  have hk3 : (keptF p.rows).length ≤ 1000000 := by omega
  rw [List.length_map] at hzl
  refine ⟨p.atoms.map Atm.d, p.rows.map Rw.d, p.cts.map Ct.d, r, dB (orB up more), dB (orB left more), dB (tellB 1 2 p.steps (keptF p.rows) up tr), dB (List.replicate p.steps false), dI (List.replicate p.cts.length 0), dB (tellB 1 2 p.steps (keptF p.rows) (orB up more) tr), dB (List.replicate p.steps false),
    dB (copyB p.steps up), dB (tellB 4 3 p.steps (keptF p.rows) left tr), dI zs, dB (copyB p.steps (orB up more)), dB (tellB 4 3 p.steps (keptF p.rows) (orB left more) tr), p.steps, h9, or_E _ _ l1, or_E _ _ l2, down_E hk hs.2.2 hs.2.1 hk3 rt up left tr ns, down_E hk hs.2.2 hs.2.1 hk3 rt (orB up more) (orB left more) tr ns,
    next_E hk hs.2.2 hs.2.1 hk3 rt up left tr ns zs hz, next_E hk hs.2.2 hs.2.1 hk3 rt (orB up more) (orB left more) tr ns zs hz, ?_, ?_, ?_, ?_, ?_, ?_⟩
  · exact @under_L rk1 chk _ _ (by rw [tellB_len]; exact hs.2.2) (by rw [tellB_len, tellB_len]) (tellB_mono _ _ _ _ _ _ _)
  · exact @under_L rk1 chk _ _ (by rw [List.length_replicate]; exact hs.2.2) rfl (fun i h => h)
  · exact @under_L rk1 chk _ _ (by rw [copyB_len]; exact hs.2.2) (by rw [copyB_len, copyB_len]) (copyB_mono _ _ _)
  · exact @under_L rk1 chk _ _ (by rw [tellB_len]; exact hs.2.2) (by rw [tellB_len, tellB_len]) (tellB_mono _ _ _ _ _ _ _)
  · exact @sameI_L rk1 chk _ (by omega)
  · exact @sameI_L rk1 chk _ (by rw [List.length_replicate]; exact hs.2.1)
theorem mono_L {chk : List D → Bool} {f : Nat} (nm : Nam) (n1 : nm.pre.length ≤ 140737488355328) (n2 : nm.sps.length ≤ 140737488355328) (ls : List (List D)) (hl : ∀ l ∈ ls, lsOk 140737488355328 (smOk 140737488355328 f) l = true) (rt : Bool) (up left tr more : List Bool) (ns : List Int) :
    callL Tryz.prog (@ext11b rk1 chk) 4 [.list (ls.map .list), .agg nm.cs, .agg [.bool rt, .list (dB up), .list (dB left), .list (dI ns)], .list (dB tr), .list (dB more)] [] = some (.bool true, [.no], []) := by
  letI : Rk := rk1
  have h6 : callL Tryz.prog (@ext11b rk1 chk) 6 [] [] = some (.bool true, [], []) := callL_ext (@ext_r rk1 chk _ _ _ _ rfl rfl)
  refine @mono_W rk1 chk (ls.map .list) nm.has nm.dft (nm.pre.map .str) (nm.sps.map .str) rt (dB up) (dB left) ns (dB tr) (dB more) (gr14 f ls nm) h6 (@great14_L rk1 chk f nm n1 n2 ls hl) fun hg a1 a2 a3 a4 a5 hns => ?_
  unfold gr14 at hg
  simp only [Bool.or_eq_false_iff, decide_eq_false_iff_not, List.any_eq_false] at hg
  obtain ⟨g1, g2, g3⟩ := hg
  unfold gnF at g2
  simp only [Bool.or_eq_false_iff, decide_eq_false_iff_not, List.any_eq_false] at g2
  obtain ⟨p1, p2, p3, p4⟩ := g2
  have hlong : ∀ s ∈ nm.pre ++ nm.sps, s.length ≤ 140737488355328 := fun s hs => by
    have := p4 s hs
    unfold longS at this
    rw [decide_eq_true_eq] at this
    omega
  have hcnt : ∀ l ∈ ls, cnt 30 (f + 1) l ((0 : Nat) : Int) ≤ 30 := fun l h => by
    have := g3 l h
    unfold gr30 at this
    rw [decide_eq_true_eq] at this
    have e : cnt 30 (f + 1) l ((0 : Nat) : Int) = cnt 30 (f + 1) l 0 := rfl
    omega
  have hsm : ∀ l ∈ ls, lsOk 100 (smOk 100 41) l = true := fun l h => cnt_small (most := 30) (by decide) (by decide) f l 0 41 rfl (hl l h) (hcnt l h)
  have hco : ∀ l ∈ ls, 3 * costL 41 l ≤ 90 := fun l h => by
    have := cnt_cost (most := 30) (by decide) (by decide) f l 0 41 rfl (hl l h) (hcnt l h)
    have := hcnt l h
    omega
  have hsum : ∀ ks : List (List D), (∀ l ∈ ks, 3 * costL 41 l ≤ 90) → (ks.map fun l => 3 * costL 41 l).sum ≤ 90 * ks.length := by
    intro ks
    induction ks with
    | nil => intro _; exact Nat.zero_le _
    | cons a r ih =>
      intro h
      have h1 := h a (List.mem_cons_self ..)
      have h2 := ih fun l hl => h l (List.mem_cons_of_mem _ hl)
      rw [List.map_cons, List.sum_cons, List.length_cons]
      omega
  have hS := hsum ls hco
  have hlen : ls.length ≤ 4 := by omega
  rcases @plan_L rk1 chk nm ⟨by omega, by omega⟩ (fun s hs => hlong s (List.mem_append_left _ hs)) (fun s hs => hlong s (List.mem_append_right _ hs)) (by omega) 41 (by decide) ls (by omega) hsm (by omega) with h9 | ⟨h9, hab⟩
  · exact .inl h9
  · refine .inr ?_
    rw [dB_len] at a1 a2
    exact monoC_of h9 (make_inv hsm hab) (by have := make_sz nm 41 ls; omega) rt up left tr more ns (by omega) (by omega) hns
end Go.Av
namespace Go.Proofs.YtaghfmgeccapbaaGreat
open Go.RowKit Go.Av Go.ChangeShapes Go.WideShapes
theorem own : ownKnob Tryz.prog.godebug = none := by kernel_rfl
theorem laidOut : laidOutB Tryz.prog = true := by kernel_rfl
theorem reach_le : reachBytes ≤ 140737488355328 := by decide
section
variable {P : Program}
theorem str_ok {t : TypeId} (hu : P.underlying t = some .string) {d : D} (h : TyD P t d) : ∃ s, d = .str s ∧ s.length ≤ 140737488355328 := by
  cases h with
  | str _ l _ hl => exact ⟨_, rfl, Nat.le_trans hl reach_le⟩
  | bool _ b h => rw [hu] at h; cases h
  | int _ k n h _ => rw [hu] at h; cases h
  | list _ e es h _ _ => rw [hu] at h; cases h
  | agg _ fs ds h _ _ => rw [hu] at h; cases h
theorem int_ok {t : TypeId} (hu : P.underlying t = some (.int .i64)) {d : D} (h : TyD P t d) : ∃ z : Int, d = .int .i64 z ∧ -9223372036854775808 ≤ z ∧ z < 9223372036854775808 := by
  cases h with
  | int _ k n h hw =>
    rw [hu] at h
    cases h
    have : (Lit.int .i64 n).wf = true := hw
    simp [Lit.wf, IntKind.min, IntKind.max, IntKind.signed, IntKind.bits] at this
    exact ⟨n, rfl, by omega, by omega⟩
  | bool _ b h => rw [hu] at h; cases h
  | str _ l h hl => rw [hu] at h; cases h
  | list _ e es h _ _ => rw [hu] at h; cases h
  | agg _ fs ds h _ _ => rw [hu] at h; cases h
theorem bool_ok {t : TypeId} (hu : P.underlying t = some .bool) {d : D} (h : TyD P t d) : ∃ b, d = .bool b := by
  cases h with
  | bool _ b h => exact ⟨b, rfl⟩
  | int _ k n h _ => rw [hu] at h; cases h
  | str _ l h hl => rw [hu] at h; cases h
  | list _ e es h _ _ => rw [hu] at h; cases h
  | agg _ fs ds h _ _ => rw [hu] at h; cases h
theorem list_ok {α : Type} {f : α → D} {t e : TypeId} {Q : α → Prop} (hu : P.underlying t = some (.slice e)) (hf : ∀ d, TyD P e d → ∃ a, d = f a ∧ Q a) {d : D} (h : TyD P t d) : ∃ l : List α, d = .list (l.map f) ∧ l.length * P.bytesOf e ≤ 140737488355328 ∧ ∀ a ∈ l, Q a := by
  cases h with
  | list _ e' es h hl hes =>
    rw [hu] at h
    cases h
    have key : ∀ es : List D, (∀ d ∈ es, TyD P e d) → ∃ l : List α, es = l.map f ∧ ∀ a ∈ l, Q a := by
      intro es
      induction es with
      | nil => exact fun _ => ⟨[], rfl, fun a h => by cases h⟩
      | cons x r ih =>
        intro h
        obtain ⟨l, rfl, hq⟩ := ih fun d hd => h d (by simp [hd])
        obtain ⟨a, rfl, ha⟩ := hf x (h x (by simp))
        refine ⟨a :: l, rfl, fun b hb => ?_⟩
        rcases List.mem_cons.1 hb with rfl | hb
        · exact ha
        · exact hq b hb
    obtain ⟨l, rfl, hq⟩ := key es hes
    exact ⟨l, rfl, by rw [List.length_map] at hl; exact Nat.le_trans hl reach_le, hq⟩
  | bool _ b h => rw [hu] at h; cases h
  | int _ k n h _ => rw [hu] at h; cases h
  | str _ l h hl => rw [hu] at h; cases h
  | agg _ fs ds h _ _ => rw [hu] at h; cases h
theorem agg_ok {t : TypeId} {fs : Array Field} (hu : P.underlying t = some (.struct fs)) {d : D} (h : TyD P t d) : ∃ ds : List D, d = .agg (ds.flatMap dcells) ∧ ds.length = fs.size ∧ ∀ (i : Nat) (f : Field) (d : D), fs[i]? = some f → ds[i]? = some d → TyD P f.type d := by
  cases h with
  | agg _ fs' ds h hl hds =>
    rw [hu] at h
    cases h
    exact ⟨ds, rfl, hl, hds⟩
  | bool _ b h => rw [hu] at h; cases h
  | int _ k n h _ => rw [hu] at h; cases h
  | str _ l h hl => rw [hu] at h; cases h
  | list _ e es h _ _ => rw [hu] at h; cases h
def fieldTs (P : Program) (t : TypeId) : Option (List TypeId) := match P.underlying t with | some (.struct fs) => some (fs.toList.map (·.type)) | _ => none
theorem agg_ok' {t : TypeId} {ts : List TypeId} (hu : fieldTs P t = some ts) {d : D} (h : TyD P t d) : ∃ ds : List D, d = .agg (ds.flatMap dcells) ∧ ds.length = ts.length ∧ ∀ (i : Nat) (u : TypeId) (d : D), ts[i]? = some u → ds[i]? = some d → TyD P u d := by
  unfold fieldTs at hu
  split at hu
  · rename_i fs hf
    injection hu with hu
    subst hu
    obtain ⟨ds, h1, h2, h3⟩ := agg_ok hf h
    refine ⟨ds, h1, by simpa using h2, fun i u d hi hd => ?_⟩
    rw [List.getElem?_map] at hi
    obtain ⟨f, hf1, rfl⟩ := Option.map_eq_some_iff.1 hi
    exact h3 i f d (by simpa using hf1) hd
  · cases hu
end
theorem le_of_mul {n b m : Nat} (h : n * b ≤ m) (hb : 0 < b) : n ≤ m := Nat.le_trans (Nat.le_mul_of_pos_right n hb) h
section
variable [Rk]
theorem cp_mono {m : Nat} {S S' : D → Bool} (h : ∀ d, S d = true → S' d = true) {x : D} (hx : cpOk m S x = true) : cpOk m S' x = true := by
  obtain ⟨c, l, rfl, h1, h2⟩ := cpOk_inv hx
  simp only [cpD, cpOk, lenB, Bool.and_eq_true, decide_eq_true_eq, List.all_eq_true]
  exact ⟨h1, fun s hs => h s (h2 s hs)⟩
theorem cx_mono {m : Nat} {S S' : D → Bool} (h : ∀ d, S d = true → S' d = true) {x : D} (hx : cxOk m S x = true) : cxOk m S' x = true := by
  obtain ⟨l, rfl, h1, h2⟩ := cxOk_inv hx
  simp only [cxD, cxOk, lenB, Bool.and_eq_true, decide_eq_true_eq, List.all_eq_true]
  exact ⟨h1, fun s hs => cp_mono h (h2 s hs)⟩
theorem ls_mono {m : Nat} {S S' : D → Bool} (h : ∀ d, S d = true → S' d = true) {l : List D} (hx : lsOk m S l = true) : lsOk m S' l = true := by
  obtain ⟨h1, h2⟩ := lsOk_mem hx
  simp only [lsOk, lenB, Bool.and_eq_true, decide_eq_true_eq, List.all_eq_true]
  exact ⟨h1, fun s hs => cx_mono h (h2 s hs)⟩
theorem names_ok {d : D} (h : TyD Tryz.prog 26 d) : ∃ nm : Nam, d = .agg nm.cs ∧ nm.pre.length ≤ 140737488355328 ∧ nm.sps.length ≤ 140737488355328 := by
  obtain ⟨ds, rfl, hl, h⟩ := agg_ok' (ts := [4, 9, 24, 24]) (by kernel_rfl) h
  match ds, hl with
  | [x0, x1, x2, x3], _ =>
    obtain ⟨b, rfl⟩ := bool_ok Tryz.underlying4 (h 0 _ _ rfl rfl)
    obtain ⟨s, rfl, _⟩ := str_ok Tryz.underlying9 (h 1 _ _ rfl rfl)
    obtain ⟨l1, rfl, h2, _⟩ := list_ok (f := D.str) (Q := fun _ => True) Tryz.underlying24 (fun d h => (str_ok Tryz.underlying9 h).imp fun _ h => ⟨h.1, trivial⟩) (h 2 _ _ rfl rfl)
    obtain ⟨l2, rfl, h3, _⟩ := list_ok (f := D.str) (Q := fun _ => True) Tryz.underlying24 (fun d h => (str_ok Tryz.underlying9 h).imp fun _ h => ⟨h.1, trivial⟩) (h 3 _ _ rfl rfl)
    exact ⟨⟨b, s, l1, l2⟩, rfl, le_of_mul h2 (by decide +kernel), le_of_mul h3 (by decide +kernel)⟩
theorem max_of {α : Type} {R : α → Nat → Prop} (hup : ∀ a i j, R a i → i ≤ j → R a j) : ∀ (l : List α), (∀ a ∈ l, ∃ f, R a f) → ∃ f, ∀ a ∈ l, R a f
  | [], _ => ⟨0, fun a h => by cases h⟩
  | x :: r, h => by
    obtain ⟨f1, h1⟩ := h x (List.mem_cons_self ..)
    obtain ⟨f2, h2⟩ := max_of hup r fun a ha => h a (List.mem_cons_of_mem _ ha)
    refine ⟨max f1 f2, fun a ha => ?_⟩
    rcases List.mem_cons.1 ha with rfl | ha
    · exact hup _ _ _ h1 (Nat.le_max_left ..)
    · exact hup _ _ _ (h2 a ha) (Nat.le_max_right ..)
abbrev MB : Nat := 140737488355328
abbrev Sel (t : TypeId) (d : D) (f : Nat) : Prop :=
  (t = 104 → smOk MB f d = true) ∧ (t = 99 → cpOk MB (smOk MB f) d = true) ∧ (t = 59 → cxOk MB (smOk MB f) d = true) ∧
  (t = 97 → ∃ l, d = .list l ∧ l.length ≤ MB ∧ ∀ s ∈ l, smOk MB f s = true) ∧ (t = 57 → ∃ l, d = .list l ∧ l.length ≤ MB ∧ ∀ s ∈ l, cpOk MB (smOk MB f) s = true) ∧ (t = 56 → ∃ l, d = .list l ∧ lsOk MB (smOk MB f) l = true)
theorem Sel.up {t : TypeId} {d : D} {i j : Nat} (h : Sel t d i) (hij : i ≤ j) : Sel t d j := by
  obtain ⟨h1, h2, h3, h4, h5, h6⟩ := h
  have hm : ∀ d, smOk MB i d = true → smOk MB j d = true := fun d hd => smOk_up i d hd j hij
  refine ⟨fun e => hm _ (h1 e), fun e => cp_mono hm (h2 e), fun e => cx_mono hm (h3 e), fun e => ?_, fun e => ?_, fun e => ?_⟩
  · obtain ⟨l, a, b, c⟩ := h4 e
    exact ⟨l, a, b, fun s hs => hm _ (c s hs)⟩
  · obtain ⟨l, a, b, c⟩ := h5 e
    exact ⟨l, a, b, fun s hs => cp_mono hm (c s hs)⟩
  · obtain ⟨l, a, b⟩ := h6 e
    exact ⟨l, a, ls_mono hm b⟩
theorem fts (t : TypeId) (ts : List TypeId) {fs : Array Field} (hu : Tryz.prog.underlying t = some (.struct fs)) (h : fieldTs Tryz.prog t = some ts) : fs.toList.map (·.type) = ts := by
  unfold fieldTs at h
  rw [hu] at h
  exact Option.some.inj h
theorem sel_ok {t : TypeId} {d : D} (h : TyD Tryz.prog t d) : ∃ f, Sel t d f := by
  induction h with
  | bool t b hu => exact ⟨0, fun e => (by subst e; rw [show Tryz.prog.underlying 104 = _ from Tryz.underlying104] at hu; cases hu), fun e => (by subst e; rw [show Tryz.prog.underlying 99 = _ from Tryz.underlying99] at hu; cases hu), fun e => (by subst e; rw [show Tryz.prog.underlying 59 = _ from Tryz.underlying59] at hu; cases hu), fun e => (by subst e; rw [Tryz.underlying97] at hu; cases hu), fun e => (by subst e; rw [Tryz.underlying57] at hu; cases hu), fun e => (by subst e; rw [Tryz.underlying56] at hu; cases hu)⟩
  | int t k n hu _ => exact ⟨0, fun e => (by subst e; rw [Tryz.underlying104] at hu; cases hu), fun e => (by subst e; rw [Tryz.underlying99] at hu; cases hu), fun e => (by subst e; rw [Tryz.underlying59] at hu; cases hu), fun e => (by subst e; rw [Tryz.underlying97] at hu; cases hu), fun e => (by subst e; rw [Tryz.underlying57] at hu; cases hu), fun e => (by subst e; rw [Tryz.underlying56] at hu; cases hu)⟩
  | str t l hu _ => exact ⟨0, fun e => (by subst e; rw [Tryz.underlying104] at hu; cases hu), fun e => (by subst e; rw [Tryz.underlying99] at hu; cases hu), fun e => (by subst e; rw [Tryz.underlying59] at hu; cases hu), fun e => (by subst e; rw [Tryz.underlying97] at hu; cases hu), fun e => (by subst e; rw [Tryz.underlying57] at hu; cases hu), fun e => (by subst e; rw [Tryz.underlying56] at hu; cases hu)⟩
  | list t e es hu hl _ ih =>
    obtain ⟨f, hf⟩ := max_of (R := fun d f => Sel e d f) (fun a i j h hij => h.up hij) es ih
    have hl' : es.length * Tryz.prog.bytesOf e ≤ 140737488355328 := Nat.le_trans hl reach_le
    refine ⟨f, fun e => (by subst e; rw [Tryz.underlying104] at hu; cases hu), fun e => (by subst e; rw [Tryz.underlying99] at hu; cases hu), fun e => (by subst e; rw [Tryz.underlying59] at hu; cases hu), fun e0 => ?_, fun e0 => ?_, fun e0 => ?_⟩
    · subst e0
      rw [Tryz.underlying97] at hu
      cases hu
      exact ⟨es, rfl, le_of_mul hl' (by decide +kernel), fun s hs => (hf s hs).1 rfl⟩
    · subst e0
      rw [Tryz.underlying57] at hu
      cases hu
      exact ⟨es, rfl, le_of_mul hl' (by decide +kernel), fun s hs => (hf s hs).2.1 rfl⟩
    · subst e0
      rw [Tryz.underlying56] at hu
      cases hu
      refine ⟨es, rfl, ?_⟩
      simp only [lsOk, lenB, Bool.and_eq_true, decide_eq_true_eq, List.all_eq_true]
      exact ⟨le_of_mul hl' (by decide +kernel), fun s hs => (hf s hs).2.2.1 rfl⟩
  | agg t fs ds hu hl hds ih =>
    have hty : TyD Tryz.prog t (.agg (ds.flatMap dcells)) := .agg t fs ds hu hl hds
    have at_ : ∀ (ts : List TypeId), fieldTs Tryz.prog t = some ts → ds.length = ts.length ∧ ∀ (i : Nat) (u : TypeId) (d : D), ts[i]? = some u → ds[i]? = some d → TyD Tryz.prog u d ∧ ∃ f, Sel u d f := by
      intro ts hts
      have e := fts t ts hu hts
      refine ⟨by rw [hl, ← e]; simp, fun i u d hi hd => ?_⟩
      rw [← e, List.getElem?_map] at hi
      obtain ⟨f, hf1, rfl⟩ := Option.map_eq_some_iff.1 hi
      exact ⟨hds i f d (by simpa using hf1) hd, ih i f d (by simpa using hf1) hd⟩
    by_cases t42 : t = 104
    · subst t42
      obtain ⟨hlen, hh⟩ := at_ [3, 3, 9, 9, 102, 3, 89, 56] (by kernel_rfl)
      match ds, hlen with
      | [x0, x1, x2, x3, x4, x5, x6, x7], _ =>
        obtain ⟨kd, rfl, _⟩ := int_ok Tryz.underlying3 (hh 0 _ _ rfl rfl).1
        obtain ⟨ns, rfl, _⟩ := int_ok Tryz.underlying3 (hh 1 _ _ rfl rfl).1
        obtain ⟨pre, rfl, h2⟩ := str_ok Tryz.underlying9 (hh 2 _ _ rfl rfl).1
        obtain ⟨nm, rfl, h3⟩ := str_ok Tryz.underlying9 (hh 3 _ _ rfl rfl).1
        obtain ⟨cd, rfl, c1, c2⟩ := agg_ok' (ts := [3, 9, 4]) (by kernel_rfl) (hh 4 _ _ rfl rfl).1
        obtain ⟨mk, rfl, _⟩ := int_ok Tryz.underlying3 (hh 5 _ _ rfl rfl).1
        obtain ⟨ad, rfl, a1, a2⟩ := agg_ok' (ts := [3, 3]) (by kernel_rfl) (hh 6 _ _ rfl rfl).1
        obtain ⟨f, hf⟩ := (hh 7 _ _ rfl rfl).2
        obtain ⟨l, rfl, hls⟩ := hf.2.2.2.2.2 rfl
        match cd, c1, ad, a1 with
        | [y0, y1, y2], _, [z0, z1], _ =>
          obtain ⟨op, rfl, _⟩ := int_ok Tryz.underlying3 (c2 0 _ _ rfl rfl)
          obtain ⟨tx, rfl, h5⟩ := str_ok Tryz.underlying9 (c2 1 _ _ rfl rfl)
          obtain ⟨fold, rfl⟩ := bool_ok Tryz.underlying4 (c2 2 _ _ rfl rfl)
          obtain ⟨a, rfl, _⟩ := int_ok Tryz.underlying3 (a2 0 _ _ rfl rfl)
          obtain ⟨b, rfl, _⟩ := int_ok Tryz.underlying3 (a2 1 _ _ rfl rfl)
          refine ⟨f + 1, fun _ => ?_, fun e => (by cases e), fun e => (by cases e), fun e => (by cases e), fun e => (by cases e), fun e => (by cases e)⟩
          show (decide (pre.length ≤ MB) && decide (nm.length ≤ MB) && decide (tx.length ≤ MB) && lsOk MB (smOk MB f) l) = true
          simp only [Bool.and_eq_true, decide_eq_true_eq]
          exact ⟨⟨⟨h2, h3⟩, h5⟩, hls⟩
    · by_cases t45 : t = 99
      · subst t45
        obtain ⟨hlen, hh⟩ := at_ [3, 97] (by kernel_rfl)
        match ds, hlen with
        | [x0, x1], _ =>
          obtain ⟨cc, rfl, _⟩ := int_ok Tryz.underlying3 (hh 0 _ _ rfl rfl).1
          obtain ⟨f, hf⟩ := (hh 1 _ _ rfl rfl).2
          obtain ⟨l, rfl, h1, h2⟩ := hf.2.2.2.1 rfl
          refine ⟨f, fun e => (by cases e), fun _ => ?_, fun e => (by cases e), fun e => (by cases e), fun e => (by cases e), fun e => (by cases e)⟩
          show (decide (l.length ≤ MB) && l.all (smOk MB f)) = true
          simp only [Bool.and_eq_true, decide_eq_true_eq, List.all_eq_true]
          exact ⟨h1, h2⟩
      · by_cases t48 : t = 59
        · subst t48
          obtain ⟨hlen, hh⟩ := at_ [57] (by kernel_rfl)
          match ds, hlen with
          | [x0], _ =>
            obtain ⟨f, hf⟩ := (hh 0 _ _ rfl rfl).2
            obtain ⟨l, rfl, h1, h2⟩ := hf.2.2.2.2.1 rfl
            refine ⟨f, fun e => (by cases e), fun e => (by cases e), fun _ => ?_, fun e => (by cases e), fun e => (by cases e), fun e => (by cases e)⟩
            show (decide (l.length ≤ MB) && l.all (cpOk MB (smOk MB f))) = true
            simp only [Bool.and_eq_true, decide_eq_true_eq, List.all_eq_true]
            exact ⟨h1, h2⟩
        · refine ⟨0, fun e => absurd e t42, fun e => absurd e t45, fun e => absurd e t48, fun e => ?_, fun e => ?_, fun e => ?_⟩
          · subst e; rw [Tryz.underlying97] at hu; cases hu
          · subst e; rw [Tryz.underlying57] at hu; cases hu
          · subst e; rw [Tryz.underlying56] at hu; cases hu
theorem sels_ok {d : D} (h : TyD Tryz.prog 56 d) : ∃ f l, d = .list l ∧ lsOk MB (smOk MB f) l = true := by
  obtain ⟨f, hf⟩ := sel_ok h
  obtain ⟨l, h1, h2⟩ := hf.2.2.2.2.2 rfl
  exact ⟨f, l, h1, h2⟩
theorem lls_ok {d : D} (h : TyD Tryz.prog 23 d) : ∃ (f : Nat) (ls : List (List D)), d = .list (ls.map .list) ∧ ∀ l ∈ ls, lsOk MB (smOk MB f) l = true := by
  obtain ⟨es, rfl, _, hes⟩ := list_ok (f := fun d : D => d) (Q := fun d => ∃ f l, d = .list l ∧ lsOk MB (smOk MB f) l = true) Tryz.underlying23 (fun d h => ⟨d, rfl, sels_ok h⟩) h
  rw [List.map_id']
  obtain ⟨f, hf⟩ := max_of (R := fun d f => ∃ l, d = D.list l ∧ lsOk MB (smOk MB f) l = true) (fun a i j ⟨l, e, h⟩ hij => ⟨l, e, ls_mono (fun d hd => smOk_up i d hd j hij) h⟩) es hes
  refine ⟨f, es.map fun d => match d with | .list l => l | _ => [], ?_, fun l hl => ?_⟩
  · rw [List.map_map]
    congr 1
    conv => lhs; rw [← List.map_id es]
    refine List.map_congr_left fun d hd => ?_
    obtain ⟨l, rfl, _⟩ := hf d hd
    rfl
  · obtain ⟨d, hd, rfl⟩ := List.mem_map.1 hl
    obtain ⟨l, rfl, h⟩ := hf d hd
    exact h
theorem bools_ok {d : D} (h : TyD Tryz.prog 42 d) : ∃ l : List Bool, d = .list (dB l) := by
  obtain ⟨l, h1, _⟩ := list_ok (f := D.bool) (Q := fun _ => True) Tryz.underlying42 (fun d h => (bool_ok Tryz.underlying4 h).imp fun _ h => ⟨h, trivial⟩) h
  exact ⟨l, h1⟩
theorem ints_ok {d : D} (h : TyD Tryz.prog 43 d) : ∃ l : List Int, d = .list (dI l) := by
  obtain ⟨l, h1, _⟩ := list_ok (f := D.int .i64) (Q := fun _ => True) Tryz.underlying43 (fun d h => (int_ok Tryz.underlying3 h).imp fun _ h => ⟨h.1, trivial⟩) h
  exact ⟨l, h1⟩
theorem ctx_ok {d : D} (h : TyD Tryz.prog 45 d) : ∃ rt up left ns, d = .agg [.bool rt, .list (dB up), .list (dB left), .list (dI ns)] := by
  obtain ⟨ds, rfl, hl, h⟩ := agg_ok' (ts := [4, 42, 42, 43]) (by kernel_rfl) h
  match ds, hl with
  | [x0, x1, x2, x3], _ =>
    obtain ⟨b, rfl⟩ := bool_ok Tryz.underlying4 (h 0 _ _ rfl rfl)
    obtain ⟨u, rfl⟩ := bools_ok (h 1 _ _ rfl rfl)
    obtain ⟨l, rfl⟩ := bools_ok (h 2 _ _ rfl rfl)
    obtain ⟨n, rfl⟩ := ints_ok (h 3 _ _ rfl rfl)
    exact ⟨b, u, l, n, rfl⟩
def us15 : List TypeId := [3, 4, 9, 24, 26, 102, 89, 104, 97, 99, 57, 59, 56, 23, 45, 42, 43]
theorem us15_ok : okTs Tryz.prog us15 = true := by kernel_rfl
end
theorem lift_plain2 {H : Type} {enc : TypeId × Value → H} {C : Checked} {os : Os} {f : FuncId} {fn : Func} {s : ChangeSpec} {conds : List PathCond} {tb : TypeId} (us : List TypeId)
    (own : ownKnob C.prog.godebug = none) (started : os.Started) (noInit : C.prog.inits.idxOf? f = none) (hfn : C.prog.funcs[f]? = some fn)
    (witness : ∃ (w : World) (tape : Tape) (i : Input), w.os = os ∧ (w.forCall tape i).Shaped C.prog ∧ i.vars = [] ∧ Input.okWide C.prog (w.forCall tape i) .any w.heap.size f i ∧
      s.pre6 enc C.prog fn conds false (w.forCall tape i).memory i.args ∧ ({} : Assume).holds C.prog (lone (Frame.enter C.prog f i.args .normal) [] (w.forCall tape i)))
    (laidOut : laidOutB C.prog = true) (hts : okTs C.prog us = true) (hT : (fn.params.toList.all fun t => us.contains t) = true) (hread : (fn.params.toList.all fun t => C.prog.readableRec t && decide (t < C.prog.types.size)) = true)
    (hres : fn.resultTypes = #[tb]) (hbool : C.prog.underlying tb = some .bool) (hvars : s.vars = [])
    (hs : ∀ ds : List (DataW H), ds.length = fn.params.toList.length → s.fn H ds = { results := [.lit (.bool true)], args := ds })
    (law : ∀ (W : World) (vals : List Value) (xs : List D), xs.length = fn.params.toList.length → vals.length = fn.params.toList.length → Pw (TyD C.prog) fn.params.toList xs → Pw (Den0 (old W) W) vals xs →
      Calls C.prog f vals.toArray W fun e W' => e = .returned (.bool true) ∧ Below W.heap.size W W') :
    ReturnsInHanded {} C os f .any (s.pre6 enc C.prog fn conds false) (s.post enc C.prog fn false true false false) := by
  refine returnsInHanded_of_change_shaped own started noInit hfn witness ?_
  intro W base args ds gs before hval0 hW hcnd hwt hsh _
  have hval : ∀ (j : Nat) t v, fn.params.toList[j]? = some t → args.toList[j]? = some v → Value.okWide C.prog W .any base t v := fun j t v h1 h2 => hval0 j t v (by simpa using h1) (by simpa using h2)
  have hW' := hW
  obtain ⟨p, q, hA, hV, rfl, hfz, hnd⟩ := hW
  rw [hvars] at hV
  obtain ⟨rfl, rfl⟩ := trodVars_none hV
  obtain ⟨l1, l2⟩ := trodAll_len hA
  obtain ⟨xs, a1, a2, a3⟩ := trodAll_den2 hts hA hval (fun t ht => by simpa using List.all_eq_true.1 hT t ht) fun m hm => of_decide_eq_true (List.all_eq_true.1 hwt m (weights_pre hm))
  have hcalls := law W args.toList xs (by omega) (by omega) a2 a3
  rw [Array.toArray_toList] at hcalls
  refine hcalls.mono ?_
  rintro e W' ⟨rfl, hb⟩
  obtain ⟨pa, hpa⟩ := trodAll_stay laidOut hb hread hA
  have hfnd : s.fn H (ds ++ []) = { results := [.lit (.bool true)], args := ds } := by rw [List.append_nil]; exact hs ds l2
  refine ⟨_, rfl, ds, [], _, [], pa, [], hW', ?_, ?_, ?_, hb.frame _, fun h => by cases h⟩
  · rw [hfnd, hres]
    exact trodAll_mk1 (shut_bool hbool _)
  · rw [hfnd]
    exact hpa
  · rw [hfnd, hvars]
    rfl
end Go.Proofs.YtaghfmgeccapbaaGreat
namespace Go.Av
open Go.Proofs Go.RowKit
theorem extR_ok [Rk] (h : CallOK Tryz.prog Rk.r) : CallOK Tryz.prog extR := by
  intro f args pbs d r pbs' e
  unfold extR at e
  split at e
  all_goals first | exact h _ _ _ _ _ _ e | cases e
theorem ext_ok [Rk] {chk : List D → Bool} (h : CallOK Tryz.prog Rk.r) : CallOK Tryz.prog (ext11b chk) := orExt_ok extF_ok (extR_ok h)
theorem aev_ok [Rk] {ext : Call} (h : CallOK Tryz.prog ext) (N : Nat) : CallOK Tryz.prog (aev Tryz.prog ext N) := aev_sound fineS h N
noncomputable abbrev rk0 : Rk := ⟨fun f args pbs => if f = 33 then extBl f args pbs else if f = 12 then extOr f args pbs else extDN (aev Tryz.prog extF 200) f args pbs⟩
theorem speaks_aev : aev Tryz.prog (@ext11b rk0 fun _ => false) 300 6 [] [] = some (.bool true, [.no], []) := by kernel_rfl
theorem noExt_okZ : CallOK Tryz.prog noExt := fun f args pbs d r pbs' h => by cases h
theorem rk0_ok : CallOK Tryz.prog rk0.r := by
  letI : Rk := rkN
  intro f args pbs d r pbs' e
  have e' : (if f = 33 then extBl f args pbs else if f = 12 then extOr f args pbs else extDN (aev Tryz.prog extF 200) f args pbs) = some (d, r, pbs') := e
  split at e'
  · exact extBl_ok _ _ _ _ _ _ e'
  split at e'
  · exact extOr_ok _ _ _ _ _ _ e'
  · exact extDN_ok (aev_ok extF_ok 200) _ _ _ _ _ _ e'
theorem speaks_C : C1 6 [] (.bool true) [] := by
  letI : Rk := rk0
  exact (C1.of (aev_ok (ext_ok (chk := fun _ => false) rk0_ok) 300) speaks_aev).room
theorem rk1_ok : CallOK Tryz.prog rk1.r := by
  letI : Rk := rkN
  intro f args pbs d r pbs' e
  have e' : (if f = 6 then extSp f args pbs else if f = 33 then extBl f args pbs else if f = 12 then extOr f args pbs else extDN call0 f args pbs) = some (d, r, pbs') := e
  split at e'
  · unfold extSp at e'
    split at e'
    · simp only [Option.some.injEq, Prod.mk.injEq] at e'
      obtain ⟨rfl, rfl, rfl⟩ := e'
      exact ⟨speaks_C.1, fun vals w F μ hv hd hb hgv hlt hg => speaks_C.2 vals w F μ hv hd hgv hlt hg⟩
    · cases e'
  split at e'
  · exact extBl_ok _ _ _ _ _ _ e'
  split at e'
  · exact extOr_ok _ _ _ _ _ _ e'
  · exact extDN_ok (callL_ok fineS (ext_ok noExt_okZ)) _ _ _ _ _ _ e'
theorem gok15 (W : World) : GOK (old W) W := by
  refine ⟨fun g => .inl rfl, fun x hx => ?_, fun x hx => ?_⟩
  · cases hx
  · cases hx
theorem law_plain {f : FuncId} {xs : List D} {r : List Room} {vals : List Value} {W : World} (h : callL Tryz.prog (@ext11b rk1 fun _ => false) f xs [] = some (.bool true, r, [])) (hl : vals.length = xs.length)
    (hd : ∀ (i : Nat) (v : Value) (x : D), vals[i]? = some v → xs[i]? = some x → Den0 (old W) W v x) : Calls Tryz.prog f vals.toArray W fun e W' => e = .returned (.bool true) ∧ Below W.heap.size W W' := by
  letI : Rk := rk1
  refine (callC (C1.of (callL_ok fineS (ext_ok rk1_ok)) h) (gok15 W) hl hd).mono ?_
  rintro e W' ⟨⟨v, rfl, hv⟩, hb⟩
  exact ⟨by rw [den_bool hv], hb⟩
end Go.Av
