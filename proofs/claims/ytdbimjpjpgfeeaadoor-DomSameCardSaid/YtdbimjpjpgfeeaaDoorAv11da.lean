/- Chapter 11: the law's copied: the walk. Conditions: its list is read. -/
import Derived.Test.YtdbimjpjpgfeeaaDoorAv11d
set_option linter.unusedVariables false
set_option linter.unusedSimpArgs false
set_option maxRecDepth 100000
namespace Go.Av
open Go.Proofs Go.RowKit Go.Proofs.YtdbimjpjpgfeeaaDoor
structure LR (F : Nat → Nat → Prop) (es : List D) (w : World) (n : Nat) (A : Option Addr) (k : Nat) (wr : World) : Prop where
  le : k ≤ n
  ge : Ge w wr
  row : n ≠ 0 → ∃ g, A = some ⟨g, 0, none⟩ ∧ w.heap.size ≤ g ∧ RowN F es g wr
theorem lcopied_any (es : List D) (F : Nat → Nat → Prop) (w : World) (v : Value) (hlt : Lt F w) (hd : Den0 F w v (.list es)) (hs : ∀ e ∈ es, isNode e = true) (hL : es.length ≤ 1000000) :
    Calls Tryd.prog 19 #[v] w (RetD F w (.list es)) := by
  obtain ⟨a, c, vs, rfl, hc, hvl, hsl, h1, hx⟩ := list_sl hlt hd (isNode_len hs)
  have hs0 := hsl.alloc (Nat.le_refl _) (.cells #[] 26)
  have ho0 : OwnR (w.alloc (.cells #[] 26)) w.heap.size 26 7 (.slice (some ⟨w.heap.size, 0, none⟩) 0 0) 0 [] := .inl ⟨rfl, rfl, _, rfl⟩
  have hfl : (flat es).length = es.length * 7 := flat_len (isNode_len hs)
  obtain ⟨n, HN⟩ : ∃ n, Hid (n = es.length) := ⟨_, rfl⟩
  rw [← HN.out] at hvl hc hfl ⊢
  have hnL : n ≤ 1000000 := by rw [HN.out]; exact hL
  go_enter Tryd.func19, Tryd.ntmps19
  go_wp2_with (at_builtin; refine app_slR _ rfl (.tmp 5) (.tmp 6) 22 rfl ei22 w.heap.size _ 0 [] rfl ho0 w.heap.size a n c vs rfl hs0 hvl h1 (by simp only [maxLen]; omega) (by omega) (by simp) ?_; intro v1 w1 ho1 hg1 hb1; obtain ⟨A1, C1, hv1, hC1⟩ := ownR_form ho1; rw [Nat.zero_add] at hv1 hC1; subst hv1)
  have hb : Ge w w1 := ((Below.refl _ w).alloc (Nat.le_refl _) _).trans hb1
  have HR : LR F es w n A1 0 w1 := by
    refine ⟨Nat.zero_le _, hb, fun hn0 => ?_⟩
    rcases ho1 with ⟨h, _⟩ | ⟨_, ⟨_, h⟩ | ⟨g, cap, cur, hv, hg, hh, _, _, _, ht⟩⟩
    · omega
    · omega
    · simp only [Value.slice.injEq] at hv
      refine ⟨g, hv.1, hg, cur, hh, fun m x hmx => ?_⟩
      have hm : m < n * 7 := by rw [← hfl]; exact (List.getElem?_eq_some_iff.1 hmx).1
      have hmv : vs[m]? = some vs[m] := List.getElem?_eq_getElem (by omega)
      refine ⟨vs[m], ?_, h1 _ (List.mem_of_getElem? hmv), (den_ge (hx m _ x hmv hmx) hlt hb).grow fun b o h => .inl h⟩
      have : (cur.toList.take ((0 + n) * 7))[m]? = some vs[m] := by rw [ht]; simp
      rw [List.getElem?_take] at this
      split at this
      · simpa using this
      · cases this
  clear ho1 hg1 hb1 hs0 ho0
  go_loopw [10] (fun v wr => ∃ k : Nat, v = .int .i64 k ∧ LR F es w n A1 k wr) (fun v _ => n - (intOf v).toNat)
  case atStart => exact ⟨0, rfl, HR⟩
  case round =>
    obtain ⟨k, rfl, hle, hG, hrow⟩ := hrel
    by_cases hk : k = n
    · subst hk
      have hG2 := Lib.hid hG
      have hrow2 := Lib.hid hrow
      clear hG hrow
      go_wp2_with fail
      go_ret
      have hG := hG2.out
      have hrow := hrow2.out
      refine RetD.of hG ?_
      by_cases h0 : k = 0
      · subst h0
        have he : es = [] := List.eq_nil_of_length_eq_zero HN.out.symm
        subst he
        exact .list _ 0 _ 7 [] [] rfl hC1 (by decide) (by simp) rfl (.inl rfl) (by simp [flat])
      · obtain ⟨g, rfl, hgB, cur, hh, hc2⟩ := hrow h0
        refine .list _ k _ 7 es (cur.toList.take (k * 7)) HN.out.symm hC1 (by decide) (isNode_len hs) ?_ (.inr ⟨g, 0, rfl, fun i v hv => ?_⟩) ?_
        · rw [List.length_take]
          have : k * 7 ≤ cur.toList.length := by
            obtain ⟨v, h3, _⟩ := hc2 (k * 7 - 1) _ (List.getElem?_eq_getElem (by omega : k * 7 - 1 < (flat es).length))
            have := (Array.getElem?_eq_some_iff.1 h3).1
            simp
            omega
          omega
        · rw [List.getElem?_take] at hv
          split at hv
          · rename_i hi
            obtain ⟨v', h3, h4, h5⟩ := hc2 i _ (List.getElem?_eq_getElem (by omega : i < (flat es).length))
            have : v' = v := by
              have : cur.toList[i]? = some v' := by simpa using h3
              rw [this] at hv
              exact Option.some.inj hv
            subst this
            refine ⟨.inr ⟨hgB, (Array.getElem?_eq_some_iff.1 hh).1⟩, ?_, h4⟩
            rw [Nat.zero_add, cell_of_row wr g i cur 26 (0, 0) hh]
            exact h3
          · cases hv
        · intro i v x hv hx'
          rw [List.getElem?_take] at hv
          split at hv
          · obtain ⟨v', h3, h4, h5⟩ := hc2 i x hx'
            have : v' = v := by
              have : cur.toList[i]? = some v' := by simpa using h3
              rw [this] at hv
              exact Option.some.inj hv
            subst this
            exact h5.grow fun b o h => h.imp id fun h => ⟨by omega, h.2⟩
          · cases hv
    · have hlt2 : k < n := by omega
      obtain ⟨g, rfl, hgB, hR⟩ := hrow (by omega)
      obtain ⟨b, off, la, ls, x4, c4, x5, c5, rfl, hbw, q4, q5, d4, d5, f4, f5, s4, s5, l4, l5⟩ := node_cells hs (by rw [← HN.out]; exact hvl) hsl hx (i := k) (by rw [← HN.out]; exact hlt2)
      have r4 := (hG.cell (p := ⟨b, off + (k * 7 + 4), none⟩) hbw).trans q4
      have r5 := (hG.cell (p := ⟨b, off + (k * 7 + 5), none⟩) hbw).trans q5
      rw [← Nat.add_assoc] at r4 r5
      have hbr : b < wr.heap.size := Nat.lt_of_lt_of_le hbw hG.size
      have hsz := hG.size
      clear q4 q5
      have hbg : b ≠ g := by omega
      have hgr : g < wr.heap.size := by obtain ⟨cur, h, _⟩ := hR; exact (Array.getElem?_eq_some_iff.1 h).1
      have E4 : OwnR (wr.alloc (.cells #[] 54)) wr.heap.size 54 3 (.slice (some ⟨wr.heap.size, 0, none⟩) 0 0) 0 [] := .inl ⟨rfl, rfl, _, rfl⟩
      have G4 : Ge wr (wr.alloc (.cells #[] 54)) := (Below.refl _ _).alloc (Nat.le_refl _) _
      obtain ⟨y4, e4, vs4, hv4, hc4, hvl4, hsl4, h14, hx4⟩ := list_sl hlt d4 s4
      obtain ⟨y5, e5, vs5, hv5, hc5, hvl5, hsl5, h15, hx5⟩ := list_sl hlt d5 s5
      cases hv4
      cases hv5
      go_wp2_with (first
        | (at_builtin; refine app_slR _ rfl (.tmp 15) (.tmp 20) 23 rfl ei23 wr.heap.size _ 0 [] rfl E4 w.heap.size x4 la.length c4 vs4 rfl (hsl4.ge (Nat.le_refl _) (hG.new _)) hvl4 h14 (by simp only [maxLen]; omega) (by omega) (by simp) ?_; intro v2 w2 ho2 hg2 hb2; obtain ⟨A2, C2, hv2, hC2⟩ := ownR_form ho2; rw [Nat.zero_add] at hv2 hC2; subst hv2; have G2 := G4.trans hb2; have R2 := hR.ge hlt hG.size G2; obtain ⟨z4, p1, p2, p3, p4⟩ := R2.cell f4; have hb2r : b < w2.heap.size := Nat.lt_of_lt_of_le hbr G2.size; have g2 := (Below.cell G2 (p := ⟨b, off + k * 7 + 5, none⟩) hbr).trans r5; have G3 := ge_put (p := ⟨g, k * 7 + 4, none⟩) (hG.tr G2) hgB (.slice A2 la.length C2); have V4 : Den0 (nx F (g + 1) w2) w2 (.slice A2 la.length C2) (.list la) := own_den ho2 (by simp) (by decide) s4 (fun b o h1 h2 => .inr ⟨by omega, h2⟩) (by simpa using h14) (fun i v x hv hx => (den_ge (hx4 i v x (by simpa using hv) hx) hlt (hG.tr G2)).grow fun b o h => .inl h); have R3 := R2.put hlt (hG.tr G2).size hgB f4 rfl V4)
        | (at_builtin; (refine app_slR _ rfl (.tmp 26) (.tmp 31) 24 rfl ei24 (w2.setCell ⟨g, k * 7 + 4, none⟩ (.slice A2 la.length C2)).heap.size _ 0 [] rfl (.inl ⟨rfl, rfl, _, rfl⟩) w.heap.size x5 ls.length c5 vs5 rfl (hsl5.ge (Nat.le_refl _) (G3.new _)) hvl5 h15 (by simp only [maxLen]; omega) (by omega) (by simp) ?_); (intro v5 w5 ho5 hg5 hb5); (obtain ⟨A5, C5, hv5, hC5⟩ := ownR_form ho5); (rw [Nat.zero_add] at hv5 hC5); (subst hv5); (have GA : Ge (w2.setCell ⟨g, k * 7 + 4, none⟩ (.slice A2 la.length C2)) w5 := ((Below.refl _ _).alloc (Nat.le_refl _) _).trans hb5); (have R5 := R3.ge hlt G3.size GA); (have G5 := G3.tr GA); (obtain ⟨z5, t1, t2, t3, t4⟩ := R5.cell f5); (have hgs : g + 1 ≤ (w2.setCell ⟨g, k * 7 + 4, none⟩ (.slice A2 la.length C2)).heap.size := by (have hq := G2.size; simp; first | done | omega)); (have V5 : Den0 (nx F (g + 1) w5) w5 (.slice A5 ls.length C5) (.list ls) := own_den ho5 (by simp) (by decide) s5 (fun b o h1 h2 => .inr ⟨by omega, h2⟩) (by simpa using h15) (fun i v x hv hx => (den_ge (hx5 i v x (by simpa using hv) hx) hlt G5).grow fun b o h => .inl h)); (have R6 := R5.put hlt G5.size hgB f5 rfl V5); (have G6 := ge_put (p := ⟨g, k * 7 + 5, none⟩) G5 hgB (.slice A5 ls.length C5))))
      exact ⟨⟨k + 1, by simp, hlt2, G6, fun _ => ⟨g, rfl, hgB, R6⟩⟩, by simp [intOf]; omega⟩
end Go.Av
