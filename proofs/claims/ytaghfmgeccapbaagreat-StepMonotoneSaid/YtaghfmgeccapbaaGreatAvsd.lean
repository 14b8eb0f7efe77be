/- The evaluator, in one text: over any program; no conditions but those that each law names. -/
import Derived.Test.YtaghfmgeccapbaaGreatAvsc
import Derived.Test.YtaghfmgeccapbaaGreatAvsb
import Derived.Test.YtaghfmgeccapbaaGreatAvsa
import Derived.Test.YtaghfmgeccapbaaGreatAvb
import Derived.Deep.QuietTactic
import Derived.Deep.OwnRows
import Derived.BigQuiet
import Derived.BigRegion
import Derived.StillTailTactics
import Derived.Laws.CopyOwn
import Derived.Deep.RegionLaw
set_option linter.unusedSimpArgs false
set_option linter.unusedVariables false
set_option linter.unusedSectionVars false
set_option maxRecDepth 100000
namespace Go.Av
open Go.Proofs
variable [Rk] {chk : List D → Bool}
def isOkR (Z : Prop) (R : D × List Room × List Bx) : Prop := ∃ b : Bool, R = (.bool b, [.no], []) ∧ (b = true → Z)
theorem okF (Z : Prop) : isOkR Z (.bool false, [.no], []) := ⟨false, rfl, fun h => by cases h⟩
set_option maxHeartbeats 32000000 in
theorem right_P (F : D → Prop) (nm : Nam) (l : List D) (outer : Bool) (hl : l.length ≤ 100) (hx : ∀ c ∈ l, ∃ xs, c = cxD xs ∧ xs.length ≤ 100 ∧ ∀ x ∈ xs, ∃ cb ss, x = cpD cb ss ∧ ss.length ≤ 100 ∧ ∀ s ∈ ss, ∃ s0 : Sf, s = s0.d ∧ ∃ b : Bool, callL Tryz.prog (ext11b chk) 102 [s0.d, .agg nm.cs] [] = some (.bool b, [.no], []) ∧ (b = true → F s0.d)) :
    ∃ b : Bool, callL Tryz.prog (ext11b chk) 74 [.list l, .agg nm.cs, .bool outer] [] = some (.bool b, [.no], []) ∧ (b = true → ∀ c ∈ l, ∀ x ∈ cxL c, ∀ s ∈ cpL x, F s) := by
  obtain ⟨Z, hZ⟩ : ∃ Z : Prop, Z = ∀ c ∈ l, ∀ x ∈ cxL c, ∀ s ∈ cpL x, F s := ⟨_, rfl⟩
  rw [← hZ]
  have HZ := Hd.mk hZ
  have HX := Hd.mk hx
  have HL := Hd.mk hl
  clear hx hl hZ
  have hcs : nm.cs = [.bool nm.has, .str nm.dft, .list (nm.pre.map .str), .list (nm.sps.map .str)] := rfl
  have HCS := Hd.mk hcs
  rw [hcs]
  clear hcs
  obtain ⟨L1, hL1⟩ : ∃ L1, L1 = nm.pre.map D.str := ⟨_, rfl⟩
  obtain ⟨L2, hL2⟩ : ∃ L2, L2 = nm.sps.map D.str := ⟨_, rfl⟩
  rw [← hL1, ← hL2]
  have HCE : Hd (nm.cs = [.bool nm.has, .str nm.dft, .list L1, .list L2]) := by rw [hL1, hL2]; exact HCS
  clear HCS hL1 hL2
  obtain ⟨R, h, b, rfl, hb⟩ := callX (Y := isOkR Z) (P := Tryz.prog) (ext := ext11b chk) (args := [.list l, .agg [.bool nm.has, .str nm.dft, .list L1, .list L2], .bool outer]) (pbs := []) (f := 74) (m := 135) (res := [6]) (rs := [.tmp 6]) rfl Tryz.func74 rfl rfl rfl rfl rfl (by
    refine Gy ?_
    refine loopH (fun s => ∃ i : Nat, i ≤ l.length ∧ s.slot 7 = .int .i64 i ∧ s.slot 0 = .list l ∧ s.slot 2 = .bool outer ∧ s.slot 4 = .ptr 4 1 0 ∧ (∃ rs, s.box 4 = some ⟨1, [.bool nm.has, .str nm.dft, .list L1, .list L2], rs⟩) ∧ (∀ (n : Nat) (c : D), n < i → l[n]? = some c → ∀ x ∈ cxL c, ∀ s ∈ cpL x, F s)) (fun s => l.length - slotI s 7) ?_ ?_
    · exact ⟨0, Nat.zero_le _, Iy, Iy, Iy, Iy, ⟨(padR [] 4).take 4, Iy⟩, fun n c h => absurd h (Nat.not_lt_zero n)⟩
    · rintro s K ⟨i, hi, g7, g0, g2, g4, ⟨rs, gb⟩, P1⟩ hn hx hr
      have PP1 := Hd.mk P1
      clear P1
      by_cases hlt : i < l.length
      · obtain ⟨c, hcl⟩ : ∃ c, l[i]? = some c := ⟨l[i], List.getElem?_eq_getElem hlt⟩
        obtain ⟨xs, rfl, hxs, hxx⟩ := (show ∀ c ∈ l, ∃ xs, c = cxD xs ∧ xs.length ≤ 100 ∧ ∀ x ∈ xs, ∃ cb ss, x = cpD cb ss ∧ ss.length ≤ 100 ∧ ∀ s ∈ ss, ∃ s0 : Sf, s = s0.d ∧ ∃ b : Bool, callL Tryz.prog (ext11b chk) 102 [s0.d, .agg nm.cs] [] = some (.bool b, [.no], []) ∧ (b = true → F s0.d) from HX) c (List.mem_of_getElem? hcl)
        have hll : l.length ≤ 100 := HL
        have hlt' : (i : Int) < l.length := by omega
        have hgd : l.getD i .bad = .agg [.list xs] := by simp [List.getD, hcl]; rfl
        have hw1 := wrapS i (by omega)
        have hwx : IntKind.i64.wrap ((xs.length : Int) - 1) = (xs.length : Int) - 1 := wrap64 _ (by omega) (by omega)
        have HXX := Hd.mk hxx
        have HCL := Hd.mk hcl
        clear hcl hxx hll hx
        refine Gy ?_
        refine loopH (fun t => ∃ j : Nat, j ≤ xs.length ∧ t.slot 9 = .int .i64 j ∧ t.slot 8 = .list xs ∧ t.slot 7 = .int .i64 i ∧ t.slot 0 = .list l ∧ t.slot 2 = .bool outer ∧ t.slot 4 = .ptr 4 1 0 ∧ (∃ rs, t.box 4 = some ⟨1, [.bool nm.has, .str nm.dft, .list L1, .list L2], rs⟩) ∧ (∀ (n : Nat) (x : D), n < j → xs[n]? = some x → ∀ s ∈ cpL x, F s)) (fun t => xs.length - slotI t 9) ?_ ?_
        · exact ⟨0, Nat.zero_le _, Iy, Iy, Iy, Iy, Iy, Iy, ⟨rs, Iy⟩, fun n c h => absurd h (Nat.not_lt_zero n)⟩
        · rintro t K2 ⟨j, hj, f9, f8, f7, f0, f2, f4, ⟨rs2, fb⟩, P2⟩ hn2 hx2 hr2
          have PP2 := Hd.mk P2
          clear P2
          by_cases hlt2 : j < xs.length
          · obtain ⟨x, hxl⟩ : ∃ x, xs[j]? = some x := ⟨xs[j], List.getElem?_eq_getElem hlt2⟩
            obtain ⟨cb, ss, rfl, hss, hsx⟩ := (show ∀ x ∈ xs, ∃ cb ss, x = cpD cb ss ∧ ss.length ≤ 100 ∧ ∀ s ∈ ss, ∃ s0 : Sf, s = s0.d ∧ ∃ b : Bool, callL Tryz.prog (ext11b chk) 102 [s0.d, .agg nm.cs] [] = some (.bool b, [.no], []) ∧ (b = true → F s0.d) from HXX) x (List.mem_of_getElem? hxl)
            have hlt2' : (j : Int) < xs.length := by omega
            have hgd2 : xs.getD j .bad = .agg [.int .i64 cb, .list ss] := by simp [List.getD, hxl]; rfl
            have hw2 := wrapS j (by omega)
            have hws : IntKind.i64.wrap ((ss.length : Int) - 1) = (ss.length : Int) - 1 := wrap64 _ (by omega) (by omega)
            have HSX := Hd.mk hsx
            have HXL := Hd.mk hxl
            clear hxl hsx hx2 hn
            by_cases q1 : cb < 0
            · refine Gy ?_
              exact hr2 _ (hr _ (exQ_i _ (okF Z) Wy))
            by_cases q2 : 4 < cb
            · refine Gy ?_
              exact hr2 _ (hr _ (exQ_i _ (okF Z) Wy))
            cases q3 : ((cb == 0) == ((j : Int) == 0)) with
            | false =>
              refine Gy ?_
              exact hr2 _ (hr _ (exQ_i _ (okF Z) Wy))
            | true =>
            cases q4 : ((ss.length : Int) == 0) with
            | true =>
              refine Gy ?_
              exact hr2 _ (hr _ (exQ_i _ (okF Z) Wy))
            | false =>
            refine Gy ?_
            clear q1 q2 q3 q4
            refine loopH (fun u => ∃ m : Nat, m ≤ ss.length ∧ u.slot 10 = .int .i64 m ∧ u.slot 9 = .int .i64 j ∧ u.slot 8 = .list xs ∧ u.slot 7 = .int .i64 i ∧ u.slot 0 = .list l ∧ u.slot 2 = .bool outer ∧ u.slot 4 = .ptr 4 1 0 ∧ (∃ rs, u.box 4 = some ⟨1, [.bool nm.has, .str nm.dft, .list L1, .list L2], rs⟩) ∧ (∀ (n : Nat) (s : D), n < m → ss[n]? = some s → F s)) (fun u => ss.length - slotI u 10) ?_ ?_
            · exact ⟨0, Nat.zero_le _, Iy, Iy, Iy, Iy, Iy, Iy, Iy, ⟨rs2, Iy⟩, fun n c h => absurd h (Nat.not_lt_zero n)⟩
            · rintro u K3 ⟨m, hm, e10, e9, e8, e7, e0, e2, e4, ⟨rs3, eb⟩, P3⟩ hn3 hx3 hr3
              have PP3 := Hd.mk P3
              clear P3
              by_cases hlt3 : m < ss.length
              · obtain ⟨y, hyl⟩ : ∃ y, ss[m]? = some y := ⟨ss[m], List.getElem?_eq_getElem hlt3⟩
                obtain ⟨s0, rfl, bb, hc, hF⟩ := (show ∀ s ∈ ss, ∃ s0 : Sf, s = s0.d ∧ ∃ b : Bool, callL Tryz.prog (ext11b chk) 102 [s0.d, .agg nm.cs] [] = some (.bool b, [.no], []) ∧ (b = true → F s0.d) from HSX) y (List.mem_of_getElem? hyl)
                rw [show nm.cs = [.bool nm.has, .str nm.dft, .list L1, .list L2] from HCE] at hc
                have hlt3' : (m : Int) < ss.length := by omega
                have hgd3 : ss.getD m .bad = .agg [.int .i64 s0.kd, .int .i64 s0.ns, .str s0.pre, .str s0.nm, .int .i64 s0.op, .str s0.tx, .bool s0.fold, .int .i64 s0.mark, .int .i64 s0.a, .int .i64 s0.b, .list s0.of_] := by simp [List.getD, hyl]; rfl
                have hw3 := wrapS m (by omega)
                have P4 : bb = true → ∀ (n : Nat) (s : D), n < m + 1 → ss[n]? = some s → F s := fun hbb n s hn hs => by
                  rcases Nat.lt_succ_iff_lt_or_eq.1 hn with h | rfl
                  · exact (show ∀ (n : Nat) (s : D), n < m → ss[n]? = some s → F s from PP3) n s h hs
                  · rw [hyl] at hs
                    injection hs with hs
                    rw [← hs]
                    exact hF hbb
                have HP4 := Hd.mk P4
                clear hyl hF hx3 PP3 PP2 PP1 HSX HXL HXX HCL HX HL HCE P4 hn2 hxs hss hlt hlt2 f9 f8 f7 f0 f2 f4 fb g7 g0 g2 g4 gb
                unfold Sf.d at hc
                cases k1 : ((j : Int) == (xs.length : Int) - 1) with
                | false =>
                  cases bb with
                  | false =>
                    refine Gy ?_
                    exact hr3 _ (hr2 _ (hr _ (exQ_i _ (okF Z) Wy)))
                  | true =>
                    cases c5 : decide ((0 : Int) < m) with
                    | false =>
                      have c6 : ¬ (0 : Int) < m := of_decide_eq_false c5
                      clear c5
                      cases c9 : (s0.kd == 13) with
                      | false =>
                        refine Gy ?_
                        exact hn3 _ ⟨m + 1, by omega, L, L, L, L, L, L, L, ⟨rs3, L⟩, (show true = true → ∀ (n : Nat) (s : D), n < m + 1 → ss[n]? = some s → F s from HP4) rfl⟩ Zy
                      | true =>
                      cases outer with
                      | false =>
                        refine Gy ?_
                        exact hr3 _ (hr2 _ (hr _ (exQ_i _ (okF Z) Wy)))
                      | true =>
                        refine Gy ?_
                        exact hr3 _ (hr2 _ (hr _ (exQ_i _ (okF Z) Wy)))
                    | true =>
                      have c6 : (0 : Int) < m := of_decide_eq_true c5
                      clear c5
                      cases c7 : (s0.kd == 1) with
                      | true =>
                        refine Gy ?_
                        exact hr3 _ (hr2 _ (hr _ (exQ_i _ (okF Z) Wy)))
                      | false =>
                      cases c8 : (s0.kd == 2) with
                      | true =>
                        refine Gy ?_
                        exact hr3 _ (hr2 _ (hr _ (exQ_i _ (okF Z) Wy)))
                      | false =>
                      cases c9 : (s0.kd == 13) with
                      | false =>
                        refine Gy ?_
                        exact hn3 _ ⟨m + 1, by omega, L, L, L, L, L, L, L, ⟨rs3, L⟩, (show true = true → ∀ (n : Nat) (s : D), n < m + 1 → ss[n]? = some s → F s from HP4) rfl⟩ Zy
                      | true =>
                      cases outer with
                      | false =>
                        refine Gy ?_
                        exact hr3 _ (hr2 _ (hr _ (exQ_i _ (okF Z) Wy)))
                      | true =>
                        refine Gy ?_
                        exact hr3 _ (hr2 _ (hr _ (exQ_i _ (okF Z) Wy)))
                | true =>
                cases k2 : ((m : Int) == (ss.length : Int) - 1) with
                | false =>
                  cases bb with
                  | false =>
                    refine Gy ?_
                    exact hr3 _ (hr2 _ (hr _ (exQ_i _ (okF Z) Wy)))
                  | true =>
                    cases c5 : decide ((0 : Int) < m) with
                    | false =>
                      have c6 : ¬ (0 : Int) < m := of_decide_eq_false c5
                      clear c5
                      cases c9 : (s0.kd == 13) with
                      | false =>
                        refine Gy ?_
                        exact hn3 _ ⟨m + 1, by omega, L, L, L, L, L, L, L, ⟨rs3, L⟩, (show true = true → ∀ (n : Nat) (s : D), n < m + 1 → ss[n]? = some s → F s from HP4) rfl⟩ Zy
                      | true =>
                      cases outer with
                      | false =>
                        refine Gy ?_
                        exact hr3 _ (hr2 _ (hr _ (exQ_i _ (okF Z) Wy)))
                      | true =>
                        refine Gy ?_
                        exact hr3 _ (hr2 _ (hr _ (exQ_i _ (okF Z) Wy)))
                    | true =>
                      have c6 : (0 : Int) < m := of_decide_eq_true c5
                      clear c5
                      cases c7 : (s0.kd == 1) with
                      | true =>
                        refine Gy ?_
                        exact hr3 _ (hr2 _ (hr _ (exQ_i _ (okF Z) Wy)))
                      | false =>
                      cases c8 : (s0.kd == 2) with
                      | true =>
                        refine Gy ?_
                        exact hr3 _ (hr2 _ (hr _ (exQ_i _ (okF Z) Wy)))
                      | false =>
                      cases c9 : (s0.kd == 13) with
                      | false =>
                        refine Gy ?_
                        exact hn3 _ ⟨m + 1, by omega, L, L, L, L, L, L, L, ⟨rs3, L⟩, (show true = true → ∀ (n : Nat) (s : D), n < m + 1 → ss[n]? = some s → F s from HP4) rfl⟩ Zy
                      | true =>
                      cases outer with
                      | false =>
                        refine Gy ?_
                        exact hr3 _ (hr2 _ (hr _ (exQ_i _ (okF Z) Wy)))
                      | true =>
                        refine Gy ?_
                        exact hr3 _ (hr2 _ (hr _ (exQ_i _ (okF Z) Wy)))
                | true =>
                  cases bb with
                  | false =>
                    refine Gy ?_
                    exact hr3 _ (hr2 _ (hr _ (exQ_i _ (okF Z) Wy)))
                  | true =>
                    cases c5 : decide ((0 : Int) < m) with
                    | false =>
                      have c6 : ¬ (0 : Int) < m := of_decide_eq_false c5
                      clear c5
                      cases c9 : (s0.kd == 13) with
                      | false =>
                        refine Gy ?_
                        exact hn3 _ ⟨m + 1, by omega, L, L, L, L, L, L, L, ⟨rs3, L⟩, (show true = true → ∀ (n : Nat) (s : D), n < m + 1 → ss[n]? = some s → F s from HP4) rfl⟩ Zy
                      | true =>
                      cases outer with
                      | false =>
                        refine Gy ?_
                        exact hr3 _ (hr2 _ (hr _ (exQ_i _ (okF Z) Wy)))
                      | true =>
                        refine Gy ?_
                        exact hn3 _ ⟨m + 1, by omega, L, L, L, L, L, L, L, ⟨rs3, L⟩, (show true = true → ∀ (n : Nat) (s : D), n < m + 1 → ss[n]? = some s → F s from HP4) rfl⟩ Zy
                    | true =>
                      have c6 : (0 : Int) < m := of_decide_eq_true c5
                      clear c5
                      cases c7 : (s0.kd == 1) with
                      | true =>
                        refine Gy ?_
                        exact hr3 _ (hr2 _ (hr _ (exQ_i _ (okF Z) Wy)))
                      | false =>
                      cases c8 : (s0.kd == 2) with
                      | true =>
                        refine Gy ?_
                        exact hr3 _ (hr2 _ (hr _ (exQ_i _ (okF Z) Wy)))
                      | false =>
                      cases c9 : (s0.kd == 13) with
                      | false =>
                        refine Gy ?_
                        exact hn3 _ ⟨m + 1, by omega, L, L, L, L, L, L, L, ⟨rs3, L⟩, (show true = true → ∀ (n : Nat) (s : D), n < m + 1 → ss[n]? = some s → F s from HP4) rfl⟩ Zy
                      | true =>
                      cases outer with
                      | false =>
                        refine Gy ?_
                        exact hr3 _ (hr2 _ (hr _ (exQ_i _ (okF Z) Wy)))
                      | true =>
                        refine Gy ?_
                        exact hn3 _ ⟨m + 1, by omega, L, L, L, L, L, L, L, ⟨rs3, L⟩, (show true = true → ∀ (n : Nat) (s : D), n < m + 1 → ss[n]? = some s → F s from HP4) rfl⟩ Zy
              · have hge3 : ¬ (m : Int) < ss.length := by omega
                have P5 : ∀ (n : Nat) (x : D), n < j + 1 → xs[n]? = some x → ∀ s ∈ cpL x, F s := fun n x hn hs => by
                  rcases Nat.lt_succ_iff_lt_or_eq.1 hn with h | rfl
                  · exact (show ∀ (n : Nat) (x : D), n < j → xs[n]? = some x → ∀ s ∈ cpL x, F s from PP2) n x h hs
                  · rw [show xs[n]? = some (cpD cb ss) from HXL] at hs
                    injection hs with hs
                    rw [← hs]
                    intro s hs
                    obtain ⟨q, hq⟩ := List.mem_iff_getElem?.1 hs
                    have hq2 : q < ss.length := (List.getElem?_eq_some_iff.1 hq).1
                    exact (show ∀ (n : Nat) (s : D), n < m → ss[n]? = some s → F s from PP3) q s (by omega) hq
                have HP5 := Hd.mk P5
                clear P5 PP3 PP2 PP1 HSX HXL HXX HCL HX HL HCE
                refine Gy ?_
                refine hx3 _ _ ?_
                clear hx3 hr3 hn3
                refine Gy ?_
                exact hn2 _ ⟨j + 1, by omega, L, L, L, L, L, L, ⟨rs3, L⟩, HP5⟩ Zy
          · have hge2 : ¬ (j : Int) < xs.length := by omega
            have P5 : ∀ (n : Nat) (c : D), n < i + 1 → l[n]? = some c → ∀ x ∈ cxL c, ∀ s ∈ cpL x, F s := fun n c hn hs => by
              rcases Nat.lt_succ_iff_lt_or_eq.1 hn with h | rfl
              · exact (show ∀ (n : Nat) (c : D), n < i → l[n]? = some c → ∀ x ∈ cxL c, ∀ s ∈ cpL x, F s from PP1) n c h hs
              · rw [show l[n]? = some (cxD xs) from HCL] at hs
                injection hs with hs
                rw [← hs]
                intro x hx
                obtain ⟨q, hq⟩ := List.mem_iff_getElem?.1 hx
                have hq2 : q < xs.length := (List.getElem?_eq_some_iff.1 hq).1
                exact (show ∀ (n : Nat) (x : D), n < j → xs[n]? = some x → ∀ s ∈ cpL x, F s from PP2) q x (by omega) hq
            have HP5 := Hd.mk P5
            clear P5 PP2 PP1 HXX HCL HX HL HCE
            refine Gy ?_
            refine hx2 _ _ ?_
            clear hx2 hr2 hn2
            cases q5 : ((xs.length : Int) == 0) with
            | true =>
              refine Gy ?_
              exact hr _ (exQ_i _ (okF Z) Wy)
            | false =>
              refine Gy ?_
              exact hn _ ⟨i + 1, by omega, L, L, L, L, ⟨rs2, L⟩, HP5⟩ Zy
      · have hge : ¬ (i : Int) < l.length := by omega
        have hZ2 : Z := by
          rw [show Z = ∀ c ∈ l, ∀ x ∈ cxL c, ∀ s ∈ cpL x, F s from HZ]
          intro c hc
          obtain ⟨q, hq⟩ := List.mem_iff_getElem?.1 hc
          have hq2 : q < l.length := (List.getElem?_eq_some_iff.1 hq).1
          exact (show ∀ (n : Nat) (c : D), n < i → l[n]? = some c → ∀ x ∈ cxL c, ∀ s ∈ cpL x, F s from PP1) q c (by omega) hq
        have HZ2 := Hd.mk hZ2
        clear hZ2 PP1 HX HL HCE HZ
        refine Gy ?_
        refine hx _ _ ?_
        clear hx hr hn
        refine Gy ?_
        exact exQ_i _ ⟨decide ((0 : Int) < l.length), rfl, fun _ => HZ2⟩ Wy)
  exact ⟨b, h, hb⟩
end Go.Av
namespace Go.Av
open Go.Proofs
variable [Rk] {chk : List D → Bool}
def isIntR (M : Int) (R : D × List Room × List Bx) : Prop := ∃ d : Int, R = (.int .i64 d, [.no], []) ∧ 0 ≤ d ∧ d ≤ M
set_option maxHeartbeats 8000000 in
theorem deep_P (M : Int) (hM : 0 ≤ M) (hM2 : M ≤ 1000) (l : List D) (hl : l.length ≤ 100) (hx : ∀ c ∈ l, ∃ xs, c = cxD xs ∧ xs.length ≤ 100 ∧ ∀ x ∈ xs, ∃ cb ss, x = cpD cb ss ∧ ss.length ≤ 100 ∧ ∀ s ∈ ss, ∃ s0 : Sf, s = s0.d ∧ ∃ d : Int, callL Tryz.prog (ext11b chk) 73 [.list s0.of_] [] = some (.int .i64 d, [.no], []) ∧ 0 ≤ d ∧ d ≤ M) :
    ∃ d : Int, callL Tryz.prog (ext11b chk) 73 [.list l] [] = some (.int .i64 d, [.no], []) ∧ 0 ≤ d ∧ d ≤ M + 1 := by
  have HX := Hd.mk hx
  have HL := Hd.mk hl
  clear hx hl
  obtain ⟨R, h, d, rfl, h0, h1⟩ := callX (Y := isIntR (M + 1)) (P := Tryz.prog) (ext := ext11b chk) (args := [.list l]) (pbs := []) (f := 73) (m := 60) (res := [2]) (rs := [.tmp 2]) rfl Tryz.func73 rfl rfl rfl rfl rfl (by
    refine Gy ?_
    refine loopH (fun s => ∃ (i : Nat) (d : Int), i ≤ l.length ∧ s.slot 4 = .int .i64 i ∧ s.slot 0 = .list l ∧ s.slot 3 = .int .i64 d ∧ 0 ≤ d ∧ d ≤ M) (fun s => l.length - slotI s 4) ?_ ?_
    · exact ⟨0, 0, Nat.zero_le _, Iy, Iy, Iy, Int.le_refl _, hM⟩
    · rintro s K ⟨i, d, hi, g4, g0, g3, d0, d1⟩ hn hx hr
      have hl : l.length ≤ 100 := HL
      by_cases hlt : i < l.length
      · obtain ⟨c, hcl⟩ : ∃ c, l[i]? = some c := ⟨l[i], List.getElem?_eq_getElem hlt⟩
        obtain ⟨xs, rfl, hxs, hxx⟩ := (show ∀ c ∈ l, ∃ xs, c = cxD xs ∧ xs.length ≤ 100 ∧ ∀ x ∈ xs, ∃ cb ss, x = cpD cb ss ∧ ss.length ≤ 100 ∧ ∀ s ∈ ss, ∃ s0 : Sf, s = s0.d ∧ ∃ d : Int, callL Tryz.prog (ext11b chk) 73 [.list s0.of_] [] = some (.int .i64 d, [.no], []) ∧ 0 ≤ d ∧ d ≤ M from HX) c (List.mem_of_getElem? hcl)
        have hlt' : (i : Int) < l.length := by omega
        have hgd : l.getD i .bad = .agg [.list xs] := by simp [List.getD, hcl]; rfl
        have hw1 := wrapS i (by omega)
        have HXX := Hd.mk hxx
        have D0 := Hd.mk d0
        have D1 := Hd.mk d1
        clear hcl hxx hr hl hx d0 d1
        refine Gy ?_
        refine loopH (fun t => ∃ (j : Nat) (d : Int), j ≤ xs.length ∧ t.slot 5 = .int .i64 j ∧ t.slot 4 = .int .i64 i ∧ t.slot 0 = .list l ∧ t.slot 3 = .int .i64 d ∧ 0 ≤ d ∧ d ≤ M) (fun t => xs.length - slotI t 5) ?_ ?_
        · exact ⟨0, d, Nat.zero_le _, Iy, Iy, Iy, Iy, D0, D1⟩
        · rintro t K2 ⟨j, d2, hj, f5, f4, f0, f3, d20, d21⟩ hn2 hx2 hr2
          by_cases hlt2 : j < xs.length
          · obtain ⟨x, hxl⟩ : ∃ x, xs[j]? = some x := ⟨xs[j], List.getElem?_eq_getElem hlt2⟩
            obtain ⟨cb, ss, rfl, hss, hsx⟩ := (show ∀ x ∈ xs, ∃ cb ss, x = cpD cb ss ∧ ss.length ≤ 100 ∧ ∀ s ∈ ss, ∃ s0 : Sf, s = s0.d ∧ ∃ d : Int, callL Tryz.prog (ext11b chk) 73 [.list s0.of_] [] = some (.int .i64 d, [.no], []) ∧ 0 ≤ d ∧ d ≤ M from HXX) x (List.mem_of_getElem? hxl)
            have hlt2' : (j : Int) < xs.length := by omega
            have hgd2 : xs.getD j .bad = .agg [.int .i64 cb, .list ss] := by simp [List.getD, hxl]; rfl
            have hw2 := wrapS j (by omega)
            have HSX := Hd.mk hsx
            have E0 := Hd.mk d20
            have E1 := Hd.mk d21
            clear hxl hsx hr2 hx2 d20 d21 hn
            refine Gy ?_
            refine loopH (fun u => ∃ (m : Nat) (d : Int), m ≤ ss.length ∧ u.slot 6 = .int .i64 m ∧ u.slot 5 = .int .i64 j ∧ u.slot 4 = .int .i64 i ∧ u.slot 0 = .list l ∧ u.slot 3 = .int .i64 d ∧ 0 ≤ d ∧ d ≤ M) (fun u => ss.length - slotI u 6) ?_ ?_
            · exact ⟨0, d2, Nat.zero_le _, Iy, Iy, Iy, Iy, Iy, E0, E1⟩
            · rintro u K3 ⟨m, d3, hm, e6, e5, e4, e0, e3, d30, d31⟩ hn3 hx3 hr3
              by_cases hlt3 : m < ss.length
              · obtain ⟨y, hyl⟩ : ∃ y, ss[m]? = some y := ⟨ss[m], List.getElem?_eq_getElem hlt3⟩
                obtain ⟨s0, rfl, dd, hc, dd0, dd1⟩ := (show ∀ s ∈ ss, ∃ s0 : Sf, s = s0.d ∧ ∃ d : Int, callL Tryz.prog (ext11b chk) 73 [.list s0.of_] [] = some (.int .i64 d, [.no], []) ∧ 0 ≤ d ∧ d ≤ M from HSX) y (List.mem_of_getElem? hyl)
                have hlt3' : (m : Int) < ss.length := by omega
                have hgd3 : ss.getD m .bad = .agg [.int .i64 s0.kd, .int .i64 s0.ns, .str s0.pre, .str s0.nm, .int .i64 s0.op, .str s0.tx, .bool s0.fold, .int .i64 s0.mark, .int .i64 s0.a, .int .i64 s0.b, .list s0.of_] := by simp [List.getD, hyl]; rfl
                have hw3 := wrapS m (by omega)
                have M0 : 0 ≤ max d3 dd := by omega
                have M1 : max d3 dd ≤ M := by omega
                clear hyl hn2 hr3 hx3 hlt3 dd0 dd1
                by_cases ho : (0 : Int) < s0.of_.length
                · refine Gy ?_
                  exact hn3 _ ⟨m + 1, max d3 dd, by omega, L, L, L, L, Wy, M0, M1⟩ Zy
                · clear hc
                  refine Gy ?_
                  exact hn3 _ ⟨m + 1, d3, by omega, L, L, L, L, L, d30, d31⟩ Zy
              · have hge3 : ¬ (m : Int) < ss.length := by omega
                refine Gy ?_
                refine hx3 _ _ ?_
                clear hx3 hr3 hn3
                refine Gy ?_
                exact hn2 _ ⟨j + 1, d3, by omega, L, L, L, L, d30, d31⟩ Zy
          · have hge2 : ¬ (j : Int) < xs.length := by omega
            refine Gy ?_
            refine hx2 _ _ ?_
            clear hx2 hr2 hn2
            refine Gy ?_
            exact hn _ ⟨i + 1, d2, by omega, L, L, L, d20, d21⟩ Zy
      · have hge : ¬ (i : Int) < l.length := by omega
        have hw : IntKind.i64.wrap (d + 1) = d + 1 := wrap64 _ (by omega) (by omega)
        have q0 : 0 ≤ d + 1 := by omega
        have q1 : d + 1 ≤ M + 1 := by omega
        refine Gy ?_
        refine hx _ _ ?_
        clear hx hr hn
        refine Gy ?_
        exact exQ_i _ ⟨d + 1, rfl, q0, q1⟩ Wy)
  exact ⟨d, h, h0, h1⟩
end Go.Av
namespace Go.Av
open Go.Proofs
variable [Rk] {chk : List D → Bool}
def abS : Nat → D → Prop
  | 0, _ => True
  | k + 1, s => ((sf s).kd = 7 → smallB (sf s).a = true ∧ smallB (sf s).b = true) ∧ ∀ c ∈ (sf s).of_, ∀ x ∈ cxL c, ∀ s ∈ cpL x, abS k s
def abL (k : Nat) (l : List D) : Prop := ∀ c ∈ l, ∀ x ∈ cxL c, ∀ s ∈ cpL x, abS k s
theorem smallB_iff {n : Int} (h : smallB n = true) : -1000000 ≤ n ∧ n ≤ 1000000 := by
  unfold smallB at h
  simpa using h
theorem nil_of {of_ : List D} (h : (!(decide ((0 : Int) < of_.length))) = true) : of_ = [] := by
  cases of_ with
  | nil => rfl
  | cons a r => simp at h
theorem simp8_ab {k : Nat} {s : Sf} {ns nb cond ab S N A St El R : Bool} (hR : R = true → abL k s.of_) (h : simp8 s.kd ns nb cond ab (decide ((0 : Int) < s.of_.length)) S N A St El (smallB s.a) (smallB s.b) R = true) : abS (k + 1) s.d := by
  have h0 : s.of_ = [] → s.kd ≠ 7 → abS (k + 1) s.d := fun e h7 => ⟨fun h => absurd h h7, fun c hc => by rw [show (sf s.d).of_ = s.of_ from rfl, e] at hc; cases hc⟩
  unfold simp8 at h
  split at h
  · rename_i c
    simp only [Bool.and_eq_true] at h
    exact h0 (nil_of h.2.2.2.2) (by omega)
  split at h
  · simp only [Bool.and_eq_true] at h
    exact h0 (nil_of h.2.2.2.2) (by omega)
  split at h
  · simp only [Bool.and_eq_true] at h
    exact h0 (nil_of h.2.2.2.2) (by omega)
  split at h
  · cases h
  split at h
  · simp only [Bool.and_eq_true] at h
    exact h0 (nil_of h.2.2) (by omega)
  split at h
  · simp only [Bool.and_eq_true] at h
    exact h0 (nil_of h.2.2) (by omega)
  split at h
  · simp only [Bool.and_eq_true] at h
    exact h0 (nil_of h.2.2) (by omega)
  split at h
  · cases h
  split at h
  · simp only [Bool.and_eq_true] at h
    exact h0 (nil_of h.2) (by omega)
  split at h
  · simp only [Bool.and_eq_true, Bool.or_eq_true] at h
    refine ⟨fun _ => ⟨h.1, h.2.1⟩, ?_⟩
    rcases h.2.2 with e | e
    · intro c hc
      rw [show (sf s.d).of_ = s.of_ from rfl, nil_of e] at hc
      cases hc
    · exact hR e
  split at h
  · rename_i c
    simp only [Bool.and_eq_true] at h
    exact ⟨fun h7 => absurd (show s.kd = 7 from h7) (by omega), hR h.2⟩
  · cases h
theorem right_L (nm : Nam) (hn : nm.ok) : ∀ (k : Nat) (l : List D) (outer : Bool), lsOk 100 (smOk 100 k) l = true → ∃ b : Bool, callL Tryz.prog (ext11b chk) 74 [.list l, .agg nm.cs, .bool outer] [] = some (.bool b, [.no], []) ∧ (b = true → abL k l) := by
  intro k
  induction k with
  | zero =>
    intro l outer hl
    obtain ⟨l1, l2⟩ := lsOk_mem hl
    exact right_P (abS 0) nm l outer l1 fun c hc => by
      obtain ⟨xs, rfl, f1, f2⟩ := cxOk_inv (l2 c hc)
      refine ⟨xs, rfl, f1, fun x hx => ?_⟩
      obtain ⟨cb, ss, rfl, f3, f4⟩ := cpOk_inv (f2 x hx)
      exact ⟨cb, ss, rfl, f3, fun s hs => by have := f4 s hs; simp [smOk] at this⟩
  | succ k ih =>
    intro l outer hl
    obtain ⟨l1, l2⟩ := lsOk_mem hl
    exact right_P (abS (k + 1)) nm l outer l1 fun c hc => by
      obtain ⟨xs, rfl, f1, f2⟩ := cxOk_inv (l2 c hc)
      refine ⟨xs, rfl, f1, fun x hx => ?_⟩
      obtain ⟨cb, ss, rfl, f3, f4⟩ := cpOk_inv (f2 x hx)
      refine ⟨cb, ss, rfl, f3, fun s hs => ?_⟩
      obtain ⟨e, h1, h2, h3, h4⟩ := smOk_inv (f4 s hs)
      obtain ⟨R, hR, hRa⟩ := ih (sf s).of_ false h4
      refine ⟨sf s, e, _, simple8_P (sf s) nm _ _ _ _ _ _ _ _ _ _ _ _ R (parts8_L _) (space8_L _ nm hn) (name8_L _ (by omega)) (attr8_L _ (by omega)) (rstate_L _) (relm8_L _) (small8_L _) (small8_L _) hR, fun h => simp8_ab hRa h⟩
theorem deep_L : ∀ (k : Nat) (l : List D), k ≤ 900 → lsOk 100 (smOk 100 k) l = true → ∃ d : Int, callL Tryz.prog (ext11b chk) 73 [.list l] [] = some (.int .i64 d, [.no], []) ∧ 0 ≤ d ∧ d ≤ (k : Int) + 1 := by
  intro k
  induction k with
  | zero =>
    intro l hk hl
    obtain ⟨l1, l2⟩ := lsOk_mem hl
    exact deep_P 0 (by omega) (by omega) l l1 fun c hc => by
      obtain ⟨xs, rfl, f1, f2⟩ := cxOk_inv (l2 c hc)
      refine ⟨xs, rfl, f1, fun x hx => ?_⟩
      obtain ⟨cb, ss, rfl, f3, f4⟩ := cpOk_inv (f2 x hx)
      exact ⟨cb, ss, rfl, f3, fun s hs => by have := f4 s hs; simp [smOk] at this⟩
  | succ k ih =>
    intro l hk hl
    obtain ⟨l1, l2⟩ := lsOk_mem hl
    have := deep_P (chk := chk) ((k : Int) + 1) (by omega) (by omega) l l1 fun c hc => by
      obtain ⟨xs, rfl, f1, f2⟩ := cxOk_inv (l2 c hc)
      refine ⟨xs, rfl, f1, fun x hx => ?_⟩
      obtain ⟨cb, ss, rfl, f3, f4⟩ := cpOk_inv (f2 x hx)
      refine ⟨cb, ss, rfl, f3, fun s hs => ?_⟩
      obtain ⟨e, h1, h2, h3, h4⟩ := smOk_inv (f4 s hs)
      exact ⟨sf s, e, ih (sf s).of_ (by omega) h4⟩
    obtain ⟨d, h1, h2, h3⟩ := this
    exact ⟨d, h1, h2, by omega⟩
theorem check_L (nm : Nam) (hn : nm.ok) (h1 : ∀ s ∈ nm.pre, s.length ≤ 140737488355328) (h2 : ∀ s ∈ nm.sps, s.length ≤ 140737488355328) (h3 : nm.dft.length ≤ 140737488355328) (k : Nat) (hk : k ≤ 900) (l : List D) (hl : lsOk 100 (smOk 100 k) l = true) :
    ∃ e : Int, callL Tryz.prog (ext11b chk) 46 [.list l, .agg nm.cs] [] = some (.int .i64 e, [.no], []) ∧ (e = 0 → abL k l) := by
  obtain ⟨b1, c1⟩ := names8_L (chk := chk) nm hn h1 h2 h3
  obtain ⟨d, c2, d0, d1⟩ := deep_L (chk := chk) k l hk hl
  obtain ⟨b3, c3, hab⟩ := right_L (chk := chk) nm hn k l true hl
  unfold Nam.cs at *
  generalize nm.pre.map D.str = L1 at *
  generalize nm.sps.map D.str = L2 at *
  clear h1 h2 h3 hn hl d0 d1
  cases b1 with
  | false =>
    clear hab c2 c3
    exact ⟨11, cWy 15 4 Tryz.func46, fun h => absurd h (by decide)⟩
  | true =>
    by_cases c : (32 : Int) < d
    · clear hab c3
      exact ⟨12, cWy 15 4 Tryz.func46, fun h => absurd h (by decide)⟩
    · cases b3 with
      | false =>
        clear hab
        exact ⟨10, cWy 15 4 Tryz.func46, fun h => absurd h (by decide)⟩
      | true =>
        have H := Hd.mk (hab rfl)
        clear hab
        exact ⟨0, cWy 15 4 Tryz.func46, fun _ => H⟩
end Go.Av
namespace Go.Av
open Go.Proofs
variable [Rk] {chk : List D → Bool}
def pn0 : Pn := ⟨[], [], [], 0⟩
def lsD (r : List (List Int)) : List D := r.map fun l => .list (dI l)
def planD (p : Pn) (r : List D) : D := .agg [.list (p.atoms.map Atm.d), .list (p.rows.map Rw.d), .list (p.cts.map Ct.d), .list r, .int .i64 (p.steps : Nat)]
def makeF (nm : Nam) (k : Nat) (ls : List (List D)) : List (List Int) × Pn := mapP (listP nm k) ls pn0
def isMade (nm : Nam) (k : Nat) (ls : List (List D)) (R : D × List Room × List Bx) : Prop :=
  (∃ i : Nat, R = (.tuple [planD pn0 [], .int .i64 i], [.no, .no], [])) ∨ (R = (.tuple [planD (makeF nm k ls).2 (lsD (makeF nm k ls).1), .int .i64 (-1)], [.no, .no], []) ∧ ∀ l ∈ ls, abL k l)
set_option maxHeartbeats 8000000 in
theorem make_L (nm : Nam) (hn : nm.ok) (h1 : ∀ s ∈ nm.pre, s.length ≤ 140737488355328) (h2 : ∀ s ∈ nm.sps, s.length ≤ 140737488355328) (h3 : nm.dft.length ≤ 140737488355328) (k : Nat) (hk : k ≤ 900) (ls : List (List D)) (hls : ls.length ≤ 100) (hl : ∀ l ∈ ls, lsOk 100 (smOk 100 k) l = true) (hsz : (ls.map fun l => 3 * costL k l).sum ≤ 1000000) :
    ∃ R, callL Tryz.prog (ext11b chk) 20 [.list (ls.map .list), .agg nm.cs] [] = some R ∧ isMade nm k ls R := by
  have lN := lenM ls D.list
  have hck := fun l (h : l ∈ ls) => check_L (chk := chk) nm hn h1 h2 h3 k hk l (hl l h)
  have hpn := fun (r : List D) (r7 : Room) (i : Nat) (l : List D) (h : ls[i]? = some l) => pen_L (chk := chk) nm hn r r7 k l (mapP (listP nm k) (ls.take i) pn0).2 (hl l (List.mem_of_getElem? h)) (by
    have := mapP_at (f := listP nm k) (g := fun l => 3 * costL k l) (l := ls) (fun l _ p => listP_sz nm k l p) h pn0
    have e : pn0.sz = 0 := rfl
    omega)
  have htk := fun (i : Nat) (l : List D) (h : ls[i]? = some l) => mapP_take (listP nm k) h pn0
  have hln := fun i => mapP_len (listP nm k) (ls.take i) pn0
  have HK := Hd.mk hck
  have HP := Hd.mk hpn
  have HT := Hd.mk htk
  have HN := Hd.mk hln
  have HL := Hd.mk hls
  clear hck hpn htk hln hls hl hsz hn h1 h2 h3 hk
  unfold Nam.cs
  refine callX (Y := isMade nm k ls) (P := Tryz.prog) (ext := ext11b chk) (args := [.list (ls.map .list), .agg [.bool nm.has, .str nm.dft, .list (nm.pre.map .str), .list (nm.sps.map .str)]]) (pbs := []) (f := 20) (m := 49) (res := [5]) (rs := [.cell 4 36, .tmp 5]) rfl Tryz.func20 rfl rfl rfl rfl rfl ?_
  refine Gy ?_
  refine loopH (fun s => ∃ i : Nat, i ≤ ls.length ∧ s.slot 7 = .int .i64 i ∧ s.slot 0 = .list (ls.map .list) ∧ s.slot 3 = .ptr 3 1 0 ∧ s.slot 4 = .ptr 4 1 0 ∧ s.slot 6 = .ptr 11 1 0 ∧ (∃ rs, s.box 3 = some ⟨1, [.bool nm.has, .str nm.dft, .list (nm.pre.map .str), .list (nm.sps.map .str)], rs⟩) ∧ s.box 4 = some ⟨1, [.list [], .list [], .list [], .list [], .int .i64 0], [.full, .full, .full, .full, .no]⟩ ∧ s.box 11 = some ⟨1, penC nm (mapP (listP nm k) (ls.take i) pn0).2 (lsD (mapP (listP nm k) (ls.take i) pn0).1), penR (mapP (listP nm k) (ls.take i) pn0).2 (rmE 43 i)⟩ ∧ (∀ (n : Nat) (l : List D), n < i → ls[n]? = some l → abL k l)) (fun s => ls.length - slotI s 7) ?_ ?_
  · exact ⟨0, Nat.zero_le _, Iy, Iy, Iy, Iy, Iy, ⟨(padR [] 4).take 4, Iy⟩, Iy, by
      show _ = some (⟨1, [.bool nm.has, .str nm.dft, .list (nm.pre.map .str), .list (nm.sps.map .str), .list [], .list [], .list [], .list [], .int .i64 0], [.no, .no, .no, .no, .full, .full, .full, .full, .no]⟩ : Bx)
      exact Iy, fun n l h => absurd h (Nat.not_lt_zero n)⟩
  · rintro s K ⟨i, hi, g7, g0, g3, g4, g6, ⟨rs, gb3⟩, gb4, gB, PA⟩ hn hx hr
    have HPA := Hd.mk PA
    clear PA
    have hll : ls.length ≤ 100 := HL
    by_cases hlt : i < ls.length
    · obtain ⟨l, hgl⟩ : ∃ l, ls[i]? = some l := ⟨ls[i], List.getElem?_eq_getElem hlt⟩
      have hlt' : (i : Int) < ls.length := by omega
      have hgd : (ls.map D.list).getD i .bad = .list l := getD_map (f := D.list) hgl
      have hw1 := wrapS i (by omega)
      obtain ⟨e, hce, hea⟩ := (show ∀ l ∈ ls, ∃ e : Int, callL Tryz.prog (ext11b chk) 46 [.list l, .agg nm.cs] [] = some (.int .i64 e, [.no], []) ∧ (e = 0 → abL k l) from HK) l (List.mem_of_getElem? hgl)
      rw [show nm.cs = [.bool nm.has, .str nm.dft, .list (nm.pre.map .str), .list (nm.sps.map .str)] from rfl] at hce
      cases he : (e != 0) with
      | true =>
        clear hea hx hn HK HP HT HN HPA
        have hpz : planD pn0 [] = .agg [.list [], .list [], .list [], .list [], .int .i64 0] := rfl
        refine Qy ?_
        exact hr _ (exQ_i _ (.inl ⟨i, rfl⟩) (by rw [hpz]; exact Wy))
      | false =>
        have he0 : e = 0 := by simpa using he
        have hab := hea he0
        have f1 := (show ∀ (i : Nat) (l : List D), ls[i]? = some l → mapP (listP nm k) (ls.take (i + 1)) pn0 = ((mapP (listP nm k) (ls.take i) pn0).1 ++ [(listP nm k l (mapP (listP nm k) (ls.take i) pn0).2).1], (listP nm k l (mapP (listP nm k) (ls.take i) pn0).2).2) from HT) i l hgl
        have f3 : (mapP (listP nm k) (ls.take i) pn0).1.length = (ls.take i).length := (show ∀ i, (mapP (listP nm k) (ls.take i) pn0).1.length = (ls.take i).length from HN) i
        have hpen := (show ∀ (r : List D) (r7 : Room) (i : Nat) (l : List D), ls[i]? = some l → callL Tryz.prog (ext11b chk) 47 [.ptr 1000000 0 0, .list l] [penB nm (mapP (listP nm k) (ls.take i) pn0).2 r r7] = some (.list (dI (listP nm k l (mapP (listP nm k) (ls.take i) pn0).2).1), [rmE 3 l.length], [penB nm (listP nm k l (mapP (listP nm k) (ls.take i) pn0).2).2 r r7]) from HP) (lsD (mapP (listP nm k) (ls.take i) pn0).1) (rmE 43 i) i l hgl
        have P2 : ∀ (n : Nat) (l : List D), n < i + 1 → ls[n]? = some l → abL k l := fun n l' hn hs => by
          rcases Nat.lt_succ_iff_lt_or_eq.1 hn with h | rfl
          · exact (show ∀ (n : Nat) (l : List D), n < i → ls[n]? = some l → abL k l from HPA) n l' h hs
          · rw [hgl] at hs
            injection hs with hs
            rw [← hs]
            exact hab
        have HP2 := Hd.mk P2
        have e4 : (lsD (mapP (listP nm k) (ls.take i) pn0).1).length + 1 ≤ 1073741824 := by unfold lsD; rw [List.length_map, f3, List.length_take]; omega
        have e5 : szOk 1 (lsD (mapP (listP nm k) (ls.take i) pn0).1) = true := szOk_map _ 1 (fun _ => rfl) _
        have e6 : rmE 43 (i + 1) = .own 43 := by unfold rmE; rw [if_neg (by omega)]
        have e7 := rmE_ok 43 i
        unfold penB at hpen
        generalize mapP (listP nm k) (ls.take i) pn0 = A at *
        obtain ⟨a, q⟩ := A
        generalize listP nm k l q = Y at *
        obtain ⟨z, q'⟩ := Y
        dsimp only at *
        have e9 : lsD (a ++ [z]) = lsD a ++ [.list (dI z)] := by unfold lsD; rw [List.map_append]; rfl
        have hC := cellsC nm q' (lsD a)
        have hC2 := cellsC nm q' (lsD a ++ [.list (dI z)])
        have hR : ∀ r0, penR q' r0 = [.no, .no, .no, .no, rmE 127 q'.atoms.length, rmE 63 q'.rows.length, rmE 91 q'.cts.length, r0, .no] := fun _ => rfl
        have ep := pr7
        clear P2 hea hab he0 hx hr HK HP HT HN HPA hgl f3 hlt hll
        generalize rmE 43 i = r0 at *
        rcases e7 with rfl | rfl
        · refine Qy ?_
          exact hn _ ⟨i + 1, by omega, L, L, L, L, L, ⟨rs, L⟩, L, by rw [f1, e6, e9]; exact Wy, HP2⟩ Zy
        · refine Qy ?_
          exact hn _ ⟨i + 1, by omega, L, L, L, L, L, ⟨rs, L⟩, L, by rw [f1, e6, e9]; exact Wy, HP2⟩ Zy
    · have hge : ¬ (i : Int) < ls.length := by omega
      have hab : ∀ l ∈ ls, abL k l := fun l hl => by
        obtain ⟨n, hn⟩ := List.mem_iff_getElem?.1 hl
        have := (List.getElem?_eq_some_iff.1 hn).1
        exact (show ∀ (n : Nat) (l : List D), n < i → ls[n]? = some l → abL k l from HPA) n l (by omega) hn
      have HAB := Hd.mk hab
      have hmk : makeF nm k ls = mapP (listP nm k) (ls.take i) pn0 := by unfold makeF; rw [List.take_of_length_le (by omega)]
      have HMK := Hd.mk hmk
      generalize mapP (listP nm k) (ls.take i) pn0 = A at *
      obtain ⟨a, q⟩ := A
      dsimp only at *
      unfold penC at gB
      clear hab hmk HPA HK HP HT HN hll
      refine Gy ?_
      refine hx _ _ ?_
      clear hx hr hn
      refine Qy ?_
      exact exQ_i (.tuple [planD q (lsD a), .int .i64 (-1)], [.no, .no], []) (.inr ⟨by rw [show makeF nm k ls = (a, q) from HMK], HAB⟩) (by unfold planD; exact Wy)
end Go.Av
namespace Go.Av
open Go.Proofs
variable [Rk] {chk : List D → Bool}
theorem plan_L (nm : Nam) (hn : nm.ok) (h1 : ∀ s ∈ nm.pre, s.length ≤ 140737488355328) (h2 : ∀ s ∈ nm.sps, s.length ≤ 140737488355328) (h3 : nm.dft.length ≤ 140737488355328) (k : Nat) (hk : k ≤ 900) (ls : List (List D)) (hls : ls.length ≤ 100) (hl : ∀ l ∈ ls, lsOk 100 (smOk 100 k) l = true) (hsz : (ls.map fun l => 3 * costL k l).sum ≤ 1000000) :
    callL Tryz.prog (ext11b chk) 9 [.list (ls.map .list), .agg nm.cs] [] = some (.tuple [planD pn0 [], .bool false], [.no, .no], []) ∨
    (callL Tryz.prog (ext11b chk) 9 [.list (ls.map .list), .agg nm.cs] [] = some (.tuple [planD (makeF nm k ls).2 (lsD (makeF nm k ls).1), .bool true], [.no, .no], []) ∧ ∀ l ∈ ls, abL k l) := by
  obtain ⟨R, hR, hm⟩ := make_L (chk := chk) nm hn h1 h2 h3 k hk ls hls hl hsz
  clear hl hls hsz h1 h2 h3 hn
  unfold Nam.cs at *
  generalize ls.map D.list = L0 at *
  rcases hm with ⟨i, rfl⟩ | ⟨rfl, hab⟩
  · refine .inl ?_
    have hi : ¬ (i : Int) < 0 := by omega
    have hpz : planD pn0 [] = .agg [.list [], .list [], .list [], .list [], .int .i64 0] := rfl
    rw [hpz] at hR ⊢
    clear hpz
    exact callK (m := 17) (res := [5]) (rs := [.cell 4 36, .tmp 5]) rfl Tryz.func9 rfl rfl rfl rfl rfl Wy
  · refine .inr ⟨?_, hab⟩
    clear hab
    unfold planD at *
    generalize makeF nm k ls = A at *
    obtain ⟨a, q⟩ := A
    dsimp only at *
    exact callK (m := 17) (res := [5]) (rs := [.cell 4 36, .tmp 5]) rfl Tryz.func9 rfl rfl rfl rfl rfl Wy
end Go.Av
namespace Go.Av
open Go.Proofs
variable [Rk] {chk : List D → Bool}
structure MonoC (chk : List D → Bool) (LS : List D) (nc : D) (rt : Bool) (U Lf N T M : List D) : Prop where
  h : ∃ as_ rws cts lls U' L' x1 x2 x3 y1 y2 u1 u2 u3 v1 v2 : List D, ∃ st : Int,
    callL Tryz.prog (ext11b chk) 9 [.list LS, nc] [] = some (.tuple [.agg [.list as_, .list rws, .list cts, .list lls, .int .i64 st], .bool true], [.no, .no], []) ∧
    callL Tryz.prog (ext11b chk) 12 [.list U, .list M] [] = some (.list U', [], []) ∧ callL Tryz.prog (ext11b chk) 12 [.list Lf, .list M] [] = some (.list L', [], []) ∧
    callL Tryz.prog (ext11b chk) 13 [.agg [.list as_, .list rws, .list cts, .list lls, .int .i64 st], .agg [.bool rt, .list U, .list Lf, .list N], .list T] [] = some (.agg [.bool false, .list x1, .list x2, .list x3], [], []) ∧
    callL Tryz.prog (ext11b chk) 13 [.agg [.list as_, .list rws, .list cts, .list lls, .int .i64 st], .agg [.bool rt, .list U', .list L', .list N], .list T] [] = some (.agg [.bool false, .list y1, .list y2, .list x3], [], []) ∧
    callL Tryz.prog (ext11b chk) 14 [.agg [.list as_, .list rws, .list cts, .list lls, .int .i64 st], .agg [.bool rt, .list U, .list Lf, .list N], .list T] [] = some (.agg [.bool false, .list u1, .list u2, .list u3], [], []) ∧
    callL Tryz.prog (ext11b chk) 14 [.agg [.list as_, .list rws, .list cts, .list lls, .int .i64 st], .agg [.bool rt, .list U', .list L', .list N], .list T] [] = some (.agg [.bool false, .list v1, .list v2, .list u3], [], []) ∧
    callL Tryz.prog (ext11b chk) 15 [.list x1, .list y1] [] = some (.bool true, [.no], []) ∧ callL Tryz.prog (ext11b chk) 15 [.list x2, .list y2] [] = some (.bool true, [.no], []) ∧
    callL Tryz.prog (ext11b chk) 15 [.list u1, .list v1] [] = some (.bool true, [.no], []) ∧ callL Tryz.prog (ext11b chk) 15 [.list u2, .list v2] [] = some (.bool true, [.no], []) ∧
    callL Tryz.prog (ext11b chk) 16 [.list u3, .list u3] [] = some (.bool true, [.no], []) ∧ callL Tryz.prog (ext11b chk) 16 [.list x3, .list x3] [] = some (.bool true, [.no], [])
set_option maxHeartbeats 16000000 in
theorem mono_W (LS : List D) (hs : Bool) (df : List UInt8) (P S : List D) (rt : Bool) (U Lf : List D) (ns : List Int) (T M : List D) (g : Bool)
    (h6 : callL Tryz.prog (ext11b chk) 6 [] [] = some (.bool true, [], [])) (h11 : callL Tryz.prog (ext11b chk) 11 [.list LS, .agg [.bool hs, .str df, .list P, .list S], .int .i64 30] [] = some (.bool g, [.no], []))
    (hgo : g = false → (U.length : Int) ≤ 200 → (Lf.length : Int) ≤ 200 → (T.length : Int) ≤ 200 → (M.length : Int) ≤ 200 → ((dI ns).length : Int) ≤ 200 → (∀ n ∈ ns, 0 ≤ n ∧ n ≤ 1099511627776) →
      callL Tryz.prog (ext11b chk) 9 [.list LS, .agg [.bool hs, .str df, .list P, .list S]] [] = some (.tuple [.agg [.list [], .list [], .list [], .list [], .int .i64 0], .bool false], [.no, .no], []) ∨ MonoC chk LS (.agg [.bool hs, .str df, .list P, .list S]) rt U Lf (dI ns) T M) :
    callL Tryz.prog (ext11b chk) 4 [.list LS, .agg [.bool hs, .str df, .list P, .list S], .agg [.bool rt, .list U, .list Lf, .list (dI ns)], .list T, .list M] [] = some (.bool true, [.no], []) := by
  have HGO := Hd.mk hgo
  clear hgo
  cases g with
  | true => exact cWy 142 10 Tryz.func4
  | false =>
    by_cases c1 : (200 : Int) < U.length
    · exact cWy 142 10 Tryz.func4
    by_cases c2 : (200 : Int) < Lf.length
    · exact cWy 142 10 Tryz.func4
    by_cases c3 : (200 : Int) < T.length
    · exact cWy 142 10 Tryz.func4
    by_cases c4 : (200 : Int) < M.length
    · exact cWy 142 10 Tryz.func4
    by_cases c5 : (200 : Int) < (dI ns).length
    · exact cWy 142 10 Tryz.func4
    have lA : ((dI ns).length : Int) = ns.length := by unfold dI; rw [List.length_map]
    have hle : ns.length ≤ 200 := by omega
    have HLE := Hd.mk hle
    have HD := Hd.mk (fun h => (show false = false → (U.length : Int) ≤ 200 → (Lf.length : Int) ≤ 200 → (T.length : Int) ≤ 200 → (M.length : Int) ≤ 200 → ((dI ns).length : Int) ≤ 200 → (∀ n ∈ ns, 0 ≤ n ∧ n ≤ 1099511627776) →
      callL Tryz.prog (ext11b chk) 9 [.list LS, .agg [.bool hs, .str df, .list P, .list S]] [] = some (.tuple [.agg [.list [], .list [], .list [], .list [], .int .i64 0], .bool false], [.no, .no], []) ∨ MonoC chk LS (.agg [.bool hs, .str df, .list P, .list S]) rt U Lf (dI ns) T M from HGO) rfl (by omega) (by omega) (by omega) (by omega) (by omega) h)
    clear HGO hle
    rw [lA] at c5
    refine cK 142 10 Tryz.func4 ?_
    refine Gy ?_
    refine loopH (fun s => ∃ i : Nat, i ≤ ns.length ∧ s.slot 56 = .int .i64 i ∧ s.slot 55 = .int .i64 (ns.length : Nat) ∧ s.slot 54 = .list (dI ns) ∧ s.slot 0 = .list LS ∧ s.slot 3 = .list T ∧ s.slot 4 = .list M ∧ s.slot 6 = .ptr 6 1 0 ∧ s.slot 7 = .ptr 7 1 0 ∧ (∃ rs, s.box 6 = some ⟨1, [.bool hs, .str df, .list P, .list S], rs⟩) ∧ (∃ rs, s.box 7 = some ⟨1, [.bool rt, .list U, .list Lf, .list (dI ns)], rs⟩) ∧
      Hd (∀ (j : Nat) (n : Int), j < i → ns[j]? = some n → 0 ≤ n ∧ n ≤ 1099511627776)) (fun s => ns.length - slotI s 56) ?_ ?_
    · exact ⟨0, Nat.zero_le _, Iy, Iy, Iy, Iy, Iy, Iy, Iy, Iy, ⟨_, Iy⟩, ⟨_, Iy⟩, fun j n h => absurd h (Nat.not_lt_zero j)⟩
    · rintro s K ⟨i, hi, g56, g55, g54, g0, g3, g4, g6, g7, ⟨r6, b6⟩, ⟨r7, b7⟩, hO⟩ hn hx hr
      have hl : ns.length ≤ 200 := HLE
      have hO' : ∀ (j : Nat) (n : Int), j < i → ns[j]? = some n → 0 ≤ n ∧ n ≤ 1099511627776 := hO
      by_cases hlt : i < ns.length
      · obtain ⟨x, hx1⟩ : ∃ x, ns[i]? = some x := ⟨ns[i], List.getElem?_eq_getElem hlt⟩
        have hlt' : (i : Int) < ns.length := by omega
        have ga : (dI ns).getD i .bad = .int .i64 x := getD_map (f := D.int .i64) hx1
        have hw1 := wrapS i (by omega)
        have hnext : 0 ≤ x → x ≤ 1099511627776 → ∀ (j : Nat) (n : Int), j < i + 1 → ns[j]? = some n → 0 ≤ n ∧ n ≤ 1099511627776 := fun h0 h1 j n hj hn => by
          rcases Nat.lt_succ_iff_lt_or_eq.1 hj with h | rfl
          · exact hO' j n h hn
          · rw [hx1] at hn
            injection hn with hn
            subst hn
            exact ⟨h0, h1⟩
        have HX := Hd.mk hnext
        clear hnext hx1 hO hO' hx HD HLE hl h6 h11 c1 c2 c3 c4 c5
        by_cases d1 : x < 0
        · clear hn HX
          refine Gy ?_
          exact hr _ Wy
        by_cases d2 : (1099511627776 : Int) < x
        · clear hn HX
          refine Gy ?_
          exact hr _ Wy
        have H2 := Hd.mk ((show 0 ≤ x → x ≤ 1099511627776 → ∀ (j : Nat) (n : Int), j < i + 1 → ns[j]? = some n → 0 ≤ n ∧ n ≤ 1099511627776 from HX) (by omega) (by omega))
        clear hr HX
        refine Gy ?_
        exact hn _ ⟨i + 1, hlt, L, L, L, L, L, L, L, L, ⟨r6, L⟩, ⟨r7, L⟩, H2⟩ Zy
      · have hge : ¬ (i : Int) < ns.length := by omega
        have hall : ∀ n ∈ ns, 0 ≤ n ∧ n ≤ 1099511627776 := fun n hn => by
          obtain ⟨j, hj⟩ := List.mem_iff_getElem?.1 hn
          have := (List.getElem?_eq_some_iff.1 hj).1
          exact hO' j n (by omega) hj
        have hD := (show (∀ n ∈ ns, 0 ≤ n ∧ n ≤ 1099511627776) → callL Tryz.prog (ext11b chk) 9 [.list LS, .agg [.bool hs, .str df, .list P, .list S]] [] = some (.tuple [.agg [.list [], .list [], .list [], .list [], .int .i64 0], .bool false], [.no, .no], []) ∨ MonoC chk LS (.agg [.bool hs, .str df, .list P, .list S]) rt U Lf (dI ns) T M from HD) hall
        clear hall hO hO' HD HLE hl h6 h11 c1 c2 c3 c4 c5 hn hr lA
        refine Gy ?_
        refine hx _ _ ?_
        clear hx hge
        generalize dI ns = N at *
        rcases hD with h9 | ⟨as_, rws, cts, lls, U', L', x1, x2, x3, y1, y2, u1, u2, u3, v1, v2, st, h9, ho1, ho2, hd1, hd2, hn1, hn2, q1, q2, q3, q4, q5, q6⟩
        · exact Wy
        · exact Wy
end Go.Av
namespace Go.Av
variable [Rk]
open Go.Proofs
def boolD : D → Bool
  | .bool b => b
  | _ => false
def intD : D → Int
  | .int _ n => n
  | _ => 0
def isB : D → Bool
  | .bool _ => true
  | _ => false
def isI : D → Bool
  | .int .i64 _ => true
  | _ => false
def atD (l : List D) (i : Nat) : Bool := boolD (l.getD i .bad)
def falses (n : Nat) : List D := List.replicate n (.bool false)
def zeros (n : Nat) : List D := List.replicate n (.int .i64 0)
def ctxD (root : Bool) (up left nums : List D) : D := .agg [.bool root, .list up, .list left, .list nums]
def blankD (n : Int) (cts : List D) : D := ctxD false (falses n.toNat) (falses n.toNat) (zeros cts.length)
def tellD (a b : Int) (kept old tr : List D) (i : Nat) : Bool :=
  if intD (kept.getD i .bad) = a then atD old i || atD tr i else if intD (kept.getD i .bad) = b then atD tr i else false
def tellL (a b : Int) (n : Nat) (kept old tr : List D) : List D := (List.range n).map fun i => .bool (tellD a b kept old tr i)
def downD (n : Int) (kept up tr cts : List D) : D := ctxD false (tellL 1 2 n.toNat kept up tr) (falses n.toNat) (zeros cts.length)
def copyL (n : Nat) (up : List D) : List D := (List.range n).map fun i => .bool (atD up i)
def nextD (n : Int) (kept up left tr nums : List D) : D := ctxD false (copyL n.toNat up) (tellL 4 3 n.toNat kept left tr) nums
def smallI (n : Int) : Bool := decide (n ≤ 1000000)
def askD (p tr : D) : D := .fix (.agg (dcells p ++ [.bool false, .list [], .list [], .list []] ++ [.list [], tr])) 0
def numD (call : Call) (p tr c : D) (n : D) : Option D :=
  match call 37 [askD p tr, c] [] with
  | some (.bool b, _, []) => if b = true then (match call 38 [c, .int .i64 (intD n)] [] with | some (.int .i64 m, _, []) => some (.int .i64 m) | _ => none) else some (.int .i64 (intD n))
  | _ => none
def numsD (call : Call) (p tr : D) (nums : List D) : Nat → List D → Option (List D)
  | _, [] => some []
  | i, c :: r => match numD call p tr c (nums.getD i .bad), numsD call p tr nums (i + 1) r with | some d, some l => some (d :: l) | _, _ => none
def extBl : Call := fun f args pbs => match f, args, pbs with
  | 33, [.agg [.list _, .list _, .list cts, .list _, .int .i64 n]], [] => if smallI n = true ∧ smallI cts.length = true then some (blankD n cts, [], []) else none
  | _, _, _ => none
end Go.Av
namespace Go.Av
open Go.Proofs Go.RowKit Go.Proofs.YtaghfmgeccapbaaGreat
def atN {α : Type} (z : α) (l : List α) (n : Int) : α := if 0 ≤ n then (l[n.toNat]?).getD z else z
theorem at_s (bs : List Bool) (i : Int) (W : World) (B : Nat) (a : Option Addr) (n c : Nat) (hn : n = bs.length) (hs : Sl W B a (bs.map Value.bool)) :
    Calls Tryz.prog 35 #[.slice a n c, .int .i64 i] W fun e W' => e = .returned (.bool (atN false bs i)) ∧ W' = W := by
  unfold atN
  by_cases h0 : 0 ≤ i
  · obtain ⟨k, rfl⟩ := Int.eq_ofNat_of_zero_le h0
    rw [if_pos h0]
    by_cases h1 : (k : Int) < (n : Int)
    · obtain ⟨b, off, rfl, hb, hc⟩ := hs.open_ (k := k) (by rw [List.length_map]; omega)
      have q := hc k (by rw [List.length_map]; omega)
      rw [List.getElem_map] at q
      obtain ⟨x, hx⟩ : ∃ x, bs[k]? = some x := ⟨_, List.getElem?_eq_getElem (by omega)⟩
      have e : bs[k]'(by omega) = x := (List.getElem?_eq_some_iff.1 hx).2
      rw [e] at q
      have hk : bs[(k : Int).toNat]? = some x := hx
      rw [hk, Option.getD_some]
      clear hc hs hx hk e
      go_enter Tryz.func35, Tryz.ntmps35
      go_wp2_with fail
      go_ret
      exact ⟨rfl, rfl⟩
    · have hk : bs[(k : Int).toNat]? = none := List.getElem?_eq_none (by omega)
      rw [hk, Option.getD_none]
      go_enter Tryz.func35, Tryz.ntmps35
      go_wp2_with fail
      go_ret
      exact ⟨rfl, rfl⟩
  · rw [if_neg h0]
    go_enter Tryz.func35, Tryz.ntmps35
    go_wp2_with fail
    go_ret
    exact ⟨rfl, rfl⟩
theorem count_s (bs : List Int) (i : Int) (W : World) (B : Nat) (a : Option Addr) (n c : Nat) (hn : n = bs.length) (hs : Sl W B a (bs.map (Value.int .i64))) :
    Calls Tryz.prog 36 #[.slice a n c, .int .i64 i] W fun e W' => e = .returned (.int .i64 (atN 0 bs i)) ∧ W' = W := by
  unfold atN
  by_cases h0 : 0 ≤ i
  · obtain ⟨k, rfl⟩ := Int.eq_ofNat_of_zero_le h0
    rw [if_pos h0]
    by_cases h1 : (k : Int) < (n : Int)
    · obtain ⟨b, off, rfl, hb, hc⟩ := hs.open_ (k := k) (by rw [List.length_map]; omega)
      have q := hc k (by rw [List.length_map]; omega)
      rw [List.getElem_map] at q
      obtain ⟨x, hx⟩ : ∃ x, bs[k]? = some x := ⟨_, List.getElem?_eq_getElem (by omega)⟩
      have e : bs[k]'(by omega) = x := (List.getElem?_eq_some_iff.1 hx).2
      rw [e] at q
      have hk : bs[(k : Int).toNat]? = some x := hx
      rw [hk, Option.getD_some]
      clear hc hs hx hk e
      go_enter Tryz.func36, Tryz.ntmps36
      go_wp2_with fail
      go_ret
      exact ⟨rfl, rfl⟩
    · have hk : bs[(k : Int).toNat]? = none := List.getElem?_eq_none (by omega)
      rw [hk, Option.getD_none]
      go_enter Tryz.func36, Tryz.ntmps36
      go_wp2_with fail
      go_ret
      exact ⟨rfl, rfl⟩
  · rw [if_neg h0]
    go_enter Tryz.func36, Tryz.ntmps36
    go_wp2_with fail
    go_ret
    exact ⟨rfl, rfl⟩
theorem info4 : (Tryz.prog.info? 4).map (fun i => (i.zero, i.size, i.bytes)) = some (some (.bool false), 1, 1) := by kernel_rfl
theorem info3 : (Tryz.prog.info? 3).map (fun i => (i.zero, i.size, i.bytes)) = some (some (.int .i64 0), 1, 8) := by kernel_rfl
theorem und42 : Tryz.prog.underlying 42 = some (.slice 4) := by kernel_rfl
theorem und43 : Tryz.prog.underlying 43 = some (.slice 3) := by kernel_rfl
theorem made_at {w : World} {z : Value} {n b : Nat} {t : TypeId} (hb : b = w.heap.size) : (w.alloc (.cells (madeCells #[z] n) t)).rowIs b t n (fun _ => z) := by
  subst hb
  exact World.rowIs_made _ _ _ _
set_option maxHeartbeats 4000000 in
theorem blank_q (w : World) (v0 v1 v3 : Value) (a : Option Addr) (m c : Nat) (n : Int) (hn : n ≤ 1000000) (hm : m ≤ 1000000) (N : Nat) (hN : N = n.toNat) :
    Calls Tryz.prog 33 #[.agg #[v0, v1, .slice a m c, v3, .int .i64 n]] w fun e w' => ∃ gu gl gn, e = .returned (.agg #[.bool false, .slice (some ⟨gu, 0, none⟩) N N, .slice (some ⟨gl, 0, none⟩) N N, .slice (some ⟨gn, 0, none⟩) m m]) ∧ Ge w w' ∧
      w.heap.size ≤ gu ∧ w.heap.size ≤ gl ∧ w.heap.size ≤ gn ∧ gu ≠ gl ∧ gu ≠ gn ∧ gl ≠ gn ∧ w'.rowIs gu 4 N (fun _ => .bool false) ∧ w'.rowIs gl 4 N (fun _ => .bool false) ∧ w'.rowIs gn 3 m (fun _ => .int .i64 0) := by
  have k2 := run_make_row' (P := Tryz.prog) 43 3 (.int .i64 0) 8 und43 info3 rfl .i64 .i64 m (by omega) (by omega)
  rcases Int.lt_or_le n 0 with h0 | h0
  · have hN0 : N = 0 := by omega
    subst hN0
    clear hN
    have hmx : max n 0 = 0 := by omega
    have k1 : ∀ w : World, (Instr.makeSlice 42 (.int .i64 0) (.int .i64 0)).run Tryz.prog w = .ok (.slice (some ⟨w.heap.size, 0, none⟩) 0 0) (w.alloc (.cells (madeCells #[.bool false] 0) 4)) := fun w => by
      simpa using run_make_row' (P := Tryz.prog) 42 4 (.bool false) 1 und42 info4 rfl .i64 .i64 0 (by omega) (by omega) w
    go_enter Tryz.func33, Tryz.ntmps33
    go_wp2_with fail
    go_region
    all_goals go_wp2_with fail
    all_goals (
      refine ⟨rfl, ?_⟩
      apply Exists.intro
      apply And.intro
      · simp [results, go_sem, Tryz.f33]
        rfl
      refine ⟨_, _, _, rfl, ?_, ?_, ?_, ?_, ?_, ?_, ?_, ?_, ?_, ?_⟩
      · repeat' (first | exact Below.refl _ _ | refine Ge.drew ?_ | refine Ge.new ?_ _)
      · omega
      · omega
      · omega
      · omega
      · omega
      · omega
      · repeat' (first | (refine made_at ?_; simp; done) | refine World.rowIs.drew ?_ | refine World.rowIs.alloc ?_ _)
      · repeat' (first | (refine made_at ?_; simp; done) | refine World.rowIs.drew ?_ | refine World.rowIs.alloc ?_ _)
      · repeat' (first | (refine made_at ?_; simp; done) | refine World.rowIs.drew ?_ | refine World.rowIs.alloc ?_ _))
  · obtain ⟨k, rfl⟩ := Int.eq_ofNat_of_zero_le h0
    have hNk : N = k := by omega
    subst hNk
    clear hN h0
    have hmx : max (N : Int) 0 = N := by omega
    have k1 := run_make_row' (P := Tryz.prog) 42 4 (.bool false) 1 und42 info4 rfl .i64 .i64 N (by omega) (by omega)
    go_enter Tryz.func33, Tryz.ntmps33
    go_wp2_with fail
    go_region
    all_goals go_wp2_with fail
    all_goals (
      refine ⟨rfl, ?_⟩
      apply Exists.intro
      apply And.intro
      · simp [results, go_sem, Tryz.f33]
        rfl
      refine ⟨_, _, _, rfl, ?_, ?_, ?_, ?_, ?_, ?_, ?_, ?_, ?_, ?_⟩
      · repeat' (first | exact Below.refl _ _ | refine Ge.drew ?_ | refine Ge.new ?_ _)
      · omega
      · omega
      · omega
      · omega
      · omega
      · omega
      · repeat' (first | (refine made_at ?_; simp; done) | refine World.rowIs.drew ?_ | refine World.rowIs.alloc ?_ _)
      · repeat' (first | (refine made_at ?_; simp; done) | refine World.rowIs.drew ?_ | refine World.rowIs.alloc ?_ _)
      · repeat' (first | (refine made_at ?_; simp; done) | refine World.rowIs.drew ?_ | refine World.rowIs.alloc ?_ _))
end Go.Av
namespace Go.Av
open Go.Proofs Go.RowKit Go.Proofs.YtaghfmgeccapbaaGreat
theorem eiB : EI Tryz.prog 42 4 1 1 := EI.mk (z := .bool false) (by kernel_rfl) (by kernel_rfl) rfl (by decide)
def orV (bs ms : List Bool) (i : Nat) : Bool := atN false bs (i : Int) || atN false ms (i : Int)
def oI (bs ms : List Bool) (k i : Nat) : Value := .bool (if i < k then orV bs ms i else atN false bs (i : Int))
theorem oI_step {bs ms : List Bool} {n k : Nat} {cur : Array Value} (hk : k < n) (hc : n ≤ cur.size) (h : ∀ i, i < n → cur[i]? = some (oI bs ms k i)) {v : Bool} (hv : orV bs ms k = v) : ∀ i, i < n → (cur.setIfInBounds k (.bool v))[i]? = some (oI bs ms (k + 1) i) := by
  intro i hi
  rw [Array.getElem?_setIfInBounds]
  by_cases e : k = i
  · subst e
    rw [if_pos rfl, if_pos (by omega), oI, if_pos (Nat.lt_succ_self k), hv]
  · rw [if_neg e, h i hi, oI, oI]
    by_cases h2 : i < k
    · rw [if_pos h2, if_pos (by omega)]
    · rw [if_neg h2, if_neg (by omega)]
set_option maxHeartbeats 4000000 in
theorem or_q (w : World) (ua : Option Addr) (n uc : Nat) (bs : List Bool) (hn : n = bs.length) (hU : Sl w w.heap.size ua (bs.map Value.bool)) (ma : Option Addr) (mn mc : Nat) (ms : List Bool) (hmn : mn = ms.length) (hM : Sl w w.heap.size ma (ms.map Value.bool)) (hL : n ≤ 1000000) :
    Calls Tryz.prog 12 #[.slice ua n uc, .slice ma mn mc] w fun e w' => ∃ a c, e = .returned (.slice a n c) ∧ n ≤ c ∧ Ge w w' ∧ (0 < n → ∃ g cur, a = some ⟨g, 0, none⟩ ∧ w.heap.size ≤ g ∧ Bk w' g 4 cur ∧ n ≤ cur.size ∧ ∀ i, i < n → cur[i]? = some (.bool (orV bs ms i))) := by
  have HN := Lib.hid hn; have HM := Lib.hid hmn; have HSM := Lib.hid hM
  have hs0 := hU.alloc (Nat.le_refl _) (.cells #[] 4)
  have ho0 : OwnR (w.alloc (.cells #[] 4)) w.heap.size 4 1 (.slice (some ⟨w.heap.size, 0, none⟩) 0 0) 0 [] := .inl ⟨rfl, rfl, _, rfl⟩
  have hvl : (bs.map Value.bool).length = n * 1 := by rw [List.length_map, hn, Nat.mul_one]
  have h1 : ∀ u ∈ bs.map Value.bool, u.oneCell' = true := fun u hu => by
    obtain ⟨y, _, rfl⟩ := List.mem_map.1 hu
    rfl
  clear hn hmn hM
  go_enter Tryz.func12, Tryz.ntmps12
  go_wp2_with (at_builtin; refine app_slR _ rfl (.tmp 7) (.tmp 8) 42 rfl eiB w.heap.size _ 0 [] rfl ho0 w.heap.size ua n uc (bs.map Value.bool) rfl hs0 hvl h1 (by simp only [maxLen]; omega) (by omega) (by simp) ?_; intro v w1 ho1 hg1 hb1; rw [Nat.zero_add, List.nil_append] at ho1; obtain ⟨A1, C1, rfl, hC1, _, _⟩ := OwnR.form ho1)
  have G1 : Ge w w1 := ((Below.refl _ w).alloc (Nat.le_refl _) _).trans hb1
  have hrow : 0 < n → ∃ g cur, A1 = some ⟨g, 0, none⟩ ∧ w.heap.size ≤ g ∧ Bk w1 g 4 cur ∧ n ≤ cur.size ∧ ∀ i, i < n → cur[i]? = some (oI bs ms 0 i) := fun h0 => by
    rcases ho1 with ⟨e, _, _, _⟩ | ⟨hl, ⟨h, _⟩ | ⟨g, cap, cur, hv, hb, hg, hnc, _, hcs, htake⟩⟩
    · omega
    · injection h with _ h2 _; omega
    · injection hv with hv1 hv2 hv3
      refine ⟨g, cur, hv1, hb, hg, by omega, fun i hi => ?_⟩
      have e1 : (cur.toList.take (n * 1))[i]? = (bs.map Value.bool)[i]? := by rw [htake]
      rw [List.getElem?_take, if_pos (by omega), Array.getElem?_toList, List.getElem?_map] at e1
      rw [e1, oI, if_neg (Nat.not_lt_zero i)]
      unfold atN
      rw [if_pos (Int.natCast_nonneg i)]
      have hib : i < bs.length := by have := HN.out; omega
      show Option.map Value.bool bs[i]? = some (Value.bool ((bs[i]?).getD false))
      rw [List.getElem?_eq_getElem hib]
      rfl
  have HR := Lib.hid hrow; have HG := Lib.hid G1; have HC := Lib.hid hC1
  clear ho1 hg1 hb1 hrow G1 hC1 hs0 ho0 hvl h1 hU
  go_loopw [12] (fun v wr => ∃ k : Nat, v = .int .i64 k ∧ k ≤ n ∧ Ge w wr ∧ (0 < n → ∃ g cur, A1 = some ⟨g, 0, none⟩ ∧ w.heap.size ≤ g ∧ Bk wr g 4 cur ∧ n ≤ cur.size ∧ ∀ i, i < n → cur[i]? = some (oI bs ms k i))) (fun v _ => n - (intOf v).toNat)
  case atStart => exact ⟨0, rfl, Nat.zero_le _, HG.out, HR.out⟩
  case round =>
    rename World => wr
    obtain ⟨k, rfl, hkn, hG, hrw⟩ := hrel
    by_cases hk : k < n
    · obtain ⟨g, cur, rfl, hb, hB, hcs, hcc⟩ := hrw (by omega)
      have q := hcc k hk
      rw [oI, if_neg (Nat.lt_irrefl k)] at q
      have c0 := (hB.cell k).trans q
      have cf := hB.free k
      have HCC := Lib.hid hcc; have HB := Lib.hid hB
      have HV : Hid (orV bs ms k = (atN false bs (k : Int) || atN false ms (k : Int))) := Lib.hid rfl
      clear hcc hB q hrw
      generalize atN false bs (k : Int) = x at *
      have hend : ∀ v : Bool, orV bs ms k = v → Ge w (wr.setCell ⟨g, k, none⟩ (.bool v)) ∧ (0 < n → ∃ g' cur, (some ⟨g, 0, none⟩ : Option Addr) = some ⟨g', 0, none⟩ ∧ w.heap.size ≤ g' ∧ Bk (wr.setCell ⟨g, k, none⟩ (.bool v)) g' 4 cur ∧ n ≤ cur.size ∧ ∀ i, i < n → cur[i]? = some (oI bs ms (k + 1) i)) := fun v hv =>
        ⟨ge_put hG hb _, fun _ => ⟨g, _, rfl, hb, HB.out.put k _, by simpa using hcs, oI_step hk hcs HCC.out hv⟩⟩
      have HE := Lib.hid hend
      clear hend
      cases x with
      | true =>
        go_wp2_with fail
        obtain ⟨e1, e2⟩ := HE.out true (by rw [HV.out]; rfl)
        exact ⟨⟨k + 1, by simp, by omega, e1, e2⟩, by simp [intOf]; omega⟩
      | false =>
        by_cases hm : k < mn
        · obtain ⟨b, off, rfl, hb2, hc2⟩ := HSM.out.open_ (k := k) (by rw [List.length_map]; have := HM.out; omega)
          have q2 := hc2 k (by rw [List.length_map]; have := HM.out; omega)
          rw [List.getElem_map] at q2
          obtain ⟨y, hy⟩ : ∃ y, ms[k]? = some y := ⟨_, List.getElem?_eq_getElem (by have := HM.out; omega)⟩
          have ey : ms[k]'(by have := HM.out; omega) = y := (List.getElem?_eq_some_iff.1 hy).2
          rw [ey] at q2
          have q3 := (hG.cell (p := ⟨b, off + k, none⟩) hb2).trans q2
          have hy2 : atN false ms (k : Int) = y := by
            unfold atN
            rw [if_pos (Int.natCast_nonneg k)]
            show (ms[k]?).getD false = y
            rw [hy]
            rfl
          rw [hy2] at HV
          clear hc2 q2 hy ey hy2
          go_wp2_with fail
          obtain ⟨e1, e2⟩ := HE.out y (by rw [HV.out]; simp)
          exact ⟨⟨k + 1, by simp, by omega, e1, e2⟩, by simp [intOf]; omega⟩
        · have hy2 : atN false ms (k : Int) = false := by
            unfold atN
            rw [if_pos (Int.natCast_nonneg k)]
            show (ms[k]?).getD false = false
            rw [List.getElem?_eq_none (by have := HM.out; omega)]
            rfl
          rw [hy2] at HV
          clear hy2
          go_wp2_with fail
          obtain ⟨e1, e2⟩ := HE.out false (by rw [HV.out]; rfl)
          exact ⟨⟨k + 1, by simp, by omega, e1, e2⟩, by simp [intOf]; omega⟩
    · go_wp2_with fail
      go_ret
      refine ⟨_, _, rfl, HC.out, hG, fun h0 => ?_⟩
      obtain ⟨g, cur, e1, e2, e3, e4, e5⟩ := hrw h0
      exact ⟨g, cur, e1, e2, e3, e4, fun i hi => by rw [e5 i hi, oI, if_pos (by omega)]⟩
end Go.Av
namespace Go.Av
variable [Rk]
open Go.Proofs Go.RowKit Go.Proofs.YtaghfmgeccapbaaGreat
theorem ext_oldW {F : Nat → Nat → Prop} {w W : World} (hlt : Lt F w) (hb : Below w.heap.size w W) : Ext (fun _ => False) F w (old W) W := by
  refine ⟨hb.os, hb.tape, hb.output, hb.size, fun b h _ => hb.block b h, fun b o h => Nat.lt_of_lt_of_le (hlt b o h) hb.size, fun b o h => ?_, fun b es c hf hm => (hb.block b (hlt b 0 hf)).trans hm⟩
  unfold World.cell?
  rw [hb.block b (hlt b o h)]
def C1 (f : FuncId) (args : List D) (d : D) (r : List Room) : Prop :=
  (∃ fn, Tryz.prog.funcs[f]? = some fn ∧ fn.body.isSome = true) ∧
    ∀ (vals : List Value) (w : World) (F : Nat → Nat → Prop) (μ : Mu), vals.length = args.length → (∀ (i : Nat) (v : Value) (x : D), vals[i]? = some v → args[i]? = some x → Den (fun _ => 1) (argNu μ) F w v x) →
      GivenOK w 0 μ → Lt F w → GOK F w → Calls Tryz.prog f vals.toArray w (Ret Tryz.prog 0 μ F w d r [])
theorem C1.of {call : Call} (h : CallOK Tryz.prog call) {f : FuncId} {args : List D} {d : D} {r : List Room} (e : call f args [] = some (d, r, [])) : C1 f args d r :=
  ⟨(h f args [] d r [] e).1, fun vals w F μ hl hd hgv hlt hg => (h f args [] d r [] e).2 vals w F μ hl hd (fun i bx hb => by simp at hb) hgv hlt hg⟩
theorem C1.callL {ext : Call} (h : CallOK Tryz.prog ext) {f : FuncId} {args : List D} {d : D} {r : List Room} (e : callL Tryz.prog ext f args [] = some (d, r, [])) : C1 f args d r := by
  obtain ⟨N, hN⟩ := callL_aev e
  exact C1.of (aev_sound fineS h N) hN
theorem C1.room {f : FuncId} {args : List D} {d : D} {r : List Room} (h : C1 f args d r) : C1 f args d [] :=
  ⟨h.1, fun vals w F μ hl hd hgv hlt hg => (h.2 vals w F μ hl hd hgv hlt hg).mono fun e w' hr => hr.retD.ret hlt⟩
theorem callC {f : FuncId} {args : List D} {d : D} {r : List Room} (h : C1 f args d r) {W : World} (hg : GOK (old W) W) {vals : List Value} (hl : vals.length = args.length) (hu : ∀ (i : Nat) (v : Value) (x : D), vals[i]? = some v → args[i]? = some x → Den0 (old W) W v x) :
    Calls Tryz.prog f vals.toArray W fun e W' => (∃ v, e = .returned v ∧ ∀ c ν, Den c ν (old W') W' v d) ∧ Below W.heap.size W W' := by
  refine (h.2 vals W (old W) mu0 hl (fun i v x h1 h2 => .pure _ _ (hu i v x h1 h2)) (given0 W) (old_lt W) hg).mono ?_
  rintro e w' ⟨v, F', ncl, rfl, hE, hlt, _, hv, _⟩
  refine ⟨⟨v, rfl, ?_⟩, ⟨hE.os, hE.tape, hE.output, hE.size, fun b hb => hE.block b hb (S_zero _ b)⟩⟩
  rcases hv with ⟨_, hv, _⟩ | ⟨h1, _⟩
  · exact fun c ν => (hv c ν).ext (S := fun _ => False) ⟨rfl, rfl, rfl, Nat.le_refl _, fun _ _ _ => rfl, fun b o hf => hlt b o hf, fun _ _ _ => rfl, fun _ _ _ _ h => h⟩
  · simp at h1
theorem three_at {α β : Type} {a b c : α} {x y z : β} {P : α → β → Prop} (h1 : P a x) (h2 : P b y) (h3 : P c z) : ∀ (i : Nat) (v : α) (d : β), [a, b, c][i]? = some v → [x, y, z][i]? = some d → P v d
  | 0, v, d, hv, hd => by simp at hv hd; subst hv hd; exact h1
  | 1, v, d, hv, hd => by simp at hv hd; subst hv hd; exact h2
  | 2, v, d, hv, hd => by simp at hv hd; subst hv hd; exact h3
  | i + 3, v, d, hv, _ => by simp at hv
theorem two_at {α β : Type} {a b : α} {x y : β} {P : α → β → Prop} (h1 : P a x) (h2 : P b y) : ∀ (i : Nat) (v : α) (d : β), [a, b][i]? = some v → [x, y][i]? = some d → P v d
  | 0, v, d, hv, hd => by simp at hv hd; subst hv hd; exact h1
  | 1, v, d, hv, hd => by simp at hv hd; subst hv hd; exact h2
  | i + 2, v, d, hv, _ => by simp at hv
theorem den_bool {v : Value} {W : World} {b : Bool} (h : ∀ c ν, Den c ν (old W) W v (.bool b)) : v = .bool b := (h (fun _ => 0) fun _ _ => 0).bool_
end Go.Av
namespace Go.Av
open Go.Proofs
variable [Rk] {chk : List D → Bool}
def atB (l : List Bool) (n : Int) : Bool := if 0 ≤ n then (l[n.toNat]?).getD false else false
theorem atS_L (l : List Bool) (n : Int) : callL Tryz.prog (ext11b chk) 35 [.list (dB l), .int .i64 n] [] = some (.bool (atB l n), [.no], []) := by
  have lA : ((dB l).length : Int) = l.length := by unfold dB; rw [List.length_map]
  unfold atB
  by_cases c : 0 ≤ n
  · rw [if_pos c]
    by_cases d : n < l.length
    · obtain ⟨b, hb⟩ : ∃ b, l[n.toNat]? = some b := ⟨l[n.toNat]'(by omega), List.getElem?_eq_getElem (by omega)⟩
      have ga : (dB l).getD n.toNat .bad = .bool b := getD_map (f := D.bool) hb
      rw [hb]
      clear hb
      exact cWy 19 4 Tryz.func35
    · rw [List.getElem?_eq_none (by omega), Option.getD_none]
      exact cWy 19 4 Tryz.func35
  · rw [if_neg c]
    exact cWy 19 4 Tryz.func35
end Go.Av
namespace Go.Av
open Go.Proofs
theorem atD_dB (l : List Bool) (i : Nat) : atD (dB l) i = (l[i]?).getD false := by
  unfold atD dB
  rw [List.getD_eq_getElem?_getD, List.getElem?_map]
  cases l[i]? <;> rfl
def orB (a more : List Bool) : List Bool := (List.range a.length).map fun i => (a[i]?).getD false || (more[i]?).getD false
theorem orB_at (a more : List Bool) (i : Nat) (h : (a[i]?).getD false = true) : ((orB a more)[i]?).getD false = true := by
  unfold orB
  rw [List.getElem?_map]
  cases e : a[i]? with
  | none => rw [e] at h; cases h
  | some b =>
    have hi := (List.getElem?_eq_some_iff.1 e).1
    rw [List.getElem?_range hi]
    rw [e] at h
    simp only [Option.map_some, Option.getD_some] at h ⊢
    rw [e]
    simp [h]
def tellB (a b : Int) (n : Nat) (ks : List Int) (old tr : List Bool) : List Bool := (List.range n).map fun i => tellD a b (dI ks) (dB old) (dB tr) i
theorem tellL_dB (a b : Int) (n : Nat) (ks : List Int) (old tr : List Bool) : tellL a b n (dI ks) (dB old) (dB tr) = dB (tellB a b n ks old tr) := by
  unfold tellL dB tellB
  rw [List.map_map]
  rfl
def copyB (n : Nat) (up : List Bool) : List Bool := (List.range n).map fun i => (up[i]?).getD false
theorem copyL_dB (n : Nat) (up : List Bool) : copyL n (dB up) = dB (copyB n up) := by
  unfold copyL copyB
  conv => rhs; unfold dB
  rw [List.map_map]
  exact List.map_congr_left fun i _ => by rw [atD_dB]; rfl
theorem falses_dB (n : Nat) : falses n = dB (List.replicate n false) := by unfold falses dB; rw [List.map_replicate]
theorem zeros_dI (n : Nat) : zeros n = dI (List.replicate n 0) := by unfold zeros dI; rw [List.map_replicate]
theorem range_mono {n : Nat} {f g : Nat → Bool} (h : ∀ i, f i = true → g i = true) : ∀ i : Nat, ((List.range n).map f)[i]? = some true → ((List.range n).map g)[i]? = some true := by
  intro i h1
  rw [List.getElem?_map] at h1 ⊢
  cases e : (List.range n)[i]? with
  | none => rw [e] at h1; cases h1
  | some k =>
    rw [e] at h1
    simp only [Option.map_some, Option.some.injEq] at h1 ⊢
    exact h k h1
theorem tellB_mono (a b : Int) (n : Nat) (ks : List Int) (old more tr : List Bool) : ∀ i : Nat, (tellB a b n ks old tr)[i]? = some true → (tellB a b n ks (orB old more) tr)[i]? = some true := by
  refine range_mono fun i h => ?_
  unfold tellD at *
  rw [atD_dB, atD_dB] at *
  have := orB_at old more i
  split
  · rename_i c
    rw [if_pos c] at h
    simp only [Bool.or_eq_true] at h ⊢
    exact h.imp this id
  · rename_i c
    rw [if_neg c] at h
    exact h
theorem copyB_mono (n : Nat) (old more : List Bool) : ∀ i : Nat, (copyB n old)[i]? = some true → (copyB n (orB old more))[i]? = some true := range_mono fun i h => orB_at old more i h
theorem tellB_len (a b : Int) (n : Nat) (ks : List Int) (old tr : List Bool) : (tellB a b n ks old tr).length = n := by unfold tellB; rw [List.length_map, List.length_range]
theorem copyB_len (n : Nat) (old : List Bool) : (copyB n old).length = n := by unfold copyB; rw [List.length_map, List.length_range]
theorem isB_dB (l : List Bool) : (dB l).all isB = true := by unfold dB; rw [List.all_map]; exact List.all_eq_true.2 fun _ _ => rfl
theorem isI_dI (l : List Int) : (dI l).all isI = true := by unfold dI; rw [List.all_map]; exact List.all_eq_true.2 fun _ _ => rfl
theorem smallI_of {n : Nat} (h : n ≤ 1000000) : smallI n = true := by unfold smallI; rw [decide_eq_true_eq]; omega
theorem getI_dI (l : List Int) (i : Nat) : intD ((dI l).getD i .bad) = (l[i]?).getD 0 := by
  unfold dI
  rw [List.getD_eq_getElem?_getD, List.getElem?_map]
  cases l[i]? <;> rfl
theorem numsD_some {call : Call} {p tr : D} {ns : List Int} (hns : ∀ n ∈ ns, 0 ≤ n ∧ n ≤ 1099511627776) : ∀ (cts : List D) (i : Nat), (∀ c ∈ cts, ∃ b r, call 37 [askD p tr, c] [] = some (.bool b, r, [])) → (∀ c ∈ cts, ∀ n : Int, 0 ≤ n → n ≤ 1099511627776 → ∃ m r, call 38 [c, .int .i64 n] [] = some (.int .i64 m, r, [])) → ∃ zs : List Int, numsD call p tr (dI ns) i cts = some (dI zs) ∧ zs.length = cts.length
  | [], i, _, _ => ⟨[], rfl, rfl⟩
  | c :: r, i, h1, h2 => by
    obtain ⟨zs, hz, hl⟩ := numsD_some hns r (i + 1) (fun c hc => h1 c (List.mem_cons_of_mem _ hc)) (fun c hc => h2 c (List.mem_cons_of_mem _ hc))
    obtain ⟨b, r1, hb⟩ := h1 c (List.mem_cons_self ..)
    have hn : 0 ≤ intD ((dI ns).getD i .bad) ∧ intD ((dI ns).getD i .bad) ≤ 1099511627776 := by
      rw [getI_dI]
      cases e : ns[i]? with
      | none => exact ⟨Int.le_refl _, by decide⟩
      | some x => exact hns x (List.mem_of_getElem? e)
    obtain ⟨m, r2, hm⟩ := h2 c (List.mem_cons_self ..) _ hn.1 hn.2
    cases b with
    | true =>
      simp only [numsD, numD, hb, hz, hm, if_true]
      exact ⟨m :: zs, rfl, by rw [List.length_cons, List.length_cons, hl]⟩
    | false =>
      simp only [numsD, numD, hb, hz, Bool.false_eq_true, if_false]
      exact ⟨_ :: zs, rfl, by rw [List.length_cons, List.length_cons, hl]⟩
end Go.Av
namespace Go.Av
open Go.Proofs Go.RowKit Go.Proofs.YtaghfmgeccapbaaGreat
theorem flat_1x {l : List D} (h : ∀ x ∈ l, dcells x = [x]) : flat l = l := by
  unfold flat
  induction l with
  | nil => rfl
  | cons a r ih =>
    rw [List.flatMap_cons, h a (List.mem_cons_self ..), ih fun x hx => h x (List.mem_cons_of_mem _ hx)]
    rfl
theorem isB_inv {d : D} (h : isB d = true) : d = .bool (boolD d) := by
  cases d <;> first | rfl | cases h
theorem isI_inv {d : D} (h : isI d = true) : d = .int .i64 (intD d) := by
  cases d with
  | int k n => cases k <;> first | rfl | cases h
  | _ => cases h
theorem den0_b {F : Nat → Nat → Prop} {w : World} {v : Value} {b : Bool} (h : Den0 F w v (.bool b)) : v = .bool b := by cases h; rfl
theorem den0_i {F : Nat → Nat → Prop} {w : World} {v : Value} {k : IntKind} {n : Int} (h : Den0 F w v (.int k n)) : v = .int k n := by cases h; rfl
theorem bools_sl {F : Nat → Nat → Prop} {w : World} {v : Value} {l : List D} (hlt : Lt F w) (h : Den0 F w v (.list l)) (hb : l.all isB = true) : ∃ a c, v = .slice a l.length c ∧ l.length ≤ c ∧ Sl w w.heap.size a ((l.map boolD).map Value.bool) := by
  have h1 : ∀ e ∈ l, dcells e = [e] := fun e he => by rw [isB_inv (List.all_eq_true.1 hb e he)]; rfl
  obtain ⟨a, c, vs, rfl, hc, hl, hs, _, hx⟩ := list_sl (sz := 1) hlt h fun e he => by rw [h1 e he]; rfl
  refine ⟨a, c, rfl, hc, ?_⟩
  have : vs = (l.map boolD).map Value.bool := List.ext_getElem? fun i => by
    by_cases hi : i < l.length
    · have e1 : vs[i]? = some vs[i] := List.getElem?_eq_getElem (by omega)
      have e2 : l[i]? = some l[i] := List.getElem?_eq_getElem hi
      have e3 := isB_inv (List.all_eq_true.1 hb _ (List.getElem_mem hi))
      have h2 := hx i _ l[i] e1 (by rw [flat_1x h1]; exact e2)
      rw [e3] at h2
      have h3 := den0_b h2
      rw [e1, List.getElem?_map, List.getElem?_map, e2, h3]
      rfl
    · rw [List.getElem?_eq_none (by omega), List.getElem?_eq_none (by rw [List.length_map, List.length_map]; omega)]
  rw [← this]
  exact hs
theorem ints_sl {F : Nat → Nat → Prop} {w : World} {v : Value} {l : List D} (hlt : Lt F w) (h : Den0 F w v (.list l)) (hb : l.all isI = true) : ∃ a c, v = .slice a l.length c ∧ l.length ≤ c ∧ Sl w w.heap.size a ((l.map intD).map (Value.int .i64)) := by
  have h1 : ∀ e ∈ l, dcells e = [e] := fun e he => by rw [isI_inv (List.all_eq_true.1 hb e he)]; rfl
  obtain ⟨a, c, vs, rfl, hc, hl, hs, _, hx⟩ := list_sl (sz := 1) hlt h fun e he => by rw [h1 e he]; rfl
  refine ⟨a, c, rfl, hc, ?_⟩
  have : vs = (l.map intD).map (Value.int .i64) := List.ext_getElem? fun i => by
    by_cases hi : i < l.length
    · have e1 : vs[i]? = some vs[i] := List.getElem?_eq_getElem (by omega)
      have e2 : l[i]? = some l[i] := List.getElem?_eq_getElem hi
      have e3 := isI_inv (List.all_eq_true.1 hb _ (List.getElem_mem hi))
      have h2 := hx i _ l[i] e1 (by rw [flat_1x h1]; exact e2)
      rw [e3] at h2
      have h3 := den0_i h2
      rw [e1, List.getElem?_map, List.getElem?_map, e2, h3]
      rfl
    · rw [List.getElem?_eq_none (by omega), List.getElem?_eq_none (by rw [List.length_map, List.length_map]; omega)]
  rw [← this]
  exact hs
theorem own_list {F : Nat → Nat → Prop} {w : World} {g n c : Nat} {ds : List D} (hn : n = ds.length) (hc : n ≤ c) (f : Nat → Value) (h1 : ∀ x ∈ ds, dcells x = [x]) (hcell : ∀ i, i < n → F g i ∧ w.cell? ⟨g, i, none⟩ = some (f i) ∧ (f i).oneCell' = true) (hd : ∀ (i : Nat) (x : D), ds[i]? = some x → Den0 F w (f i) x) : Den0 F w (.slice (some ⟨g, 0, none⟩) n c) (.list ds) := by
  refine .list _ n c 1 ds ((List.range n).map f) hn.symm hc (by decide) (fun e he => by rw [h1 e he]; rfl) (by rw [List.length_map, List.length_range, Nat.mul_one]) (.inr ⟨g, 0, rfl, fun i v hv => ?_⟩) fun i v x hv hx => ?_
  · rw [List.getElem?_map] at hv
    obtain ⟨k, hk, rfl⟩ := Option.map_eq_some_iff.1 hv
    obtain ⟨hkl, hke⟩ := List.getElem?_eq_some_iff.1 hk
    rw [List.getElem_range] at hke
    subst hke
    rw [Nat.zero_add]
    exact hcell _ (by simpa using hkl)
  · rw [flat_1x h1] at hx
    rw [List.getElem?_map] at hv
    obtain ⟨k, hk, rfl⟩ := Option.map_eq_some_iff.1 hv
    obtain ⟨hkl, hke⟩ := List.getElem?_eq_some_iff.1 hk
    rw [List.getElem_range] at hke
    subst hke
    exact hd _ _ hx
theorem rowB_den {F : Nat → Nat → Prop} {w : World} {g n : Nat} {f : Nat → Bool} {ds : List D} (h : w.rowIs g 4 n (fun i => .bool (f i))) (hF : ∀ o, F g o) (hds : ds = (List.range n).map fun i => .bool (f i)) : Den0 F w (.slice (some ⟨g, 0, none⟩) n n) (.list ds) := by
  subst hds
  refine own_list (by rw [List.length_map, List.length_range]) (Nat.le_refl _) (fun i => .bool (f i)) (fun x hx => ?_) (fun i hi => ⟨hF i, h.cell hi, rfl⟩) fun i x hx => ?_
  · obtain ⟨k, _, rfl⟩ := List.mem_map.1 hx
    rfl
  · rw [List.getElem?_map] at hx
    obtain ⟨k, hk, rfl⟩ := Option.map_eq_some_iff.1 hx
    obtain ⟨hkl, hke⟩ := List.getElem?_eq_some_iff.1 hk
    rw [List.getElem_range] at hke
    subst hke
    exact .bool _
theorem rowI_den {F : Nat → Nat → Prop} {w : World} {g n : Nat} {f : Nat → Int} {ds : List D} (h : w.rowIs g 3 n (fun i => .int .i64 (f i))) (hF : ∀ o, F g o) (hds : ds = (List.range n).map fun i => .int .i64 (f i)) : Den0 F w (.slice (some ⟨g, 0, none⟩) n n) (.list ds) := by
  subst hds
  refine own_list (by rw [List.length_map, List.length_range]) (Nat.le_refl _) (fun i => .int .i64 (f i)) (fun x hx => ?_) (fun i hi => ⟨hF i, h.cell hi, rfl⟩) fun i x hx => ?_
  · obtain ⟨k, _, rfl⟩ := List.mem_map.1 hx
    rfl
  · rw [List.getElem?_map] at hx
    obtain ⟨k, hk, rfl⟩ := Option.map_eq_some_iff.1 hx
    obtain ⟨hkl, hke⟩ := List.getElem?_eq_some_iff.1 hk
    rw [List.getElem_range] at hke
    subst hke
    exact .int _ _
theorem four_at {P : Value → D → Prop} {a b c d : Value} {x y z t : D} (h1 : P a x) (h2 : P b y) (h3 : P c z) (h4 : P d t) : ∀ (i : Nat) (v : Value) (e : D), [a, b, c, d][i]? = some v → [x, y, z, t][i]? = some e → P v e
  | 0, v, e, hv, he => by simp at hv he; subst hv he; exact h1
  | 1, v, e, hv, he => by simp at hv he; subst hv he; exact h2
  | 2, v, e, hv, he => by simp at hv he; subst hv he; exact h3
  | 3, v, e, hv, he => by simp at hv he; subst hv he; exact h4
  | i + 4, v, e, hv, _ => by simp at hv
theorem ctx_den {F : Nat → Nat → Prop} {w : World} {gu gl gn n m : Nat} {fu fl : Nat → Bool} {fn : Nat → Int} {up left nums : List D} (hu : w.rowIs gu 4 n (fun i => .bool (fu i))) (hl : w.rowIs gl 4 n (fun i => .bool (fl i))) (hn : w.rowIs gn 3 m (fun i => .int .i64 (fn i)))
    (hFu : ∀ o, F gu o) (hFl : ∀ o, F gl o) (hFn : ∀ o, F gn o) (e1 : up = (List.range n).map fun i => .bool (fu i)) (e2 : left = (List.range n).map fun i => .bool (fl i)) (e3 : nums = (List.range m).map fun i => .int .i64 (fn i)) :
    Den0 F w (.agg #[.bool false, .slice (some ⟨gu, 0, none⟩) n n, .slice (some ⟨gl, 0, none⟩) n n, .slice (some ⟨gn, 0, none⟩) m m]) (ctxD false up left nums) := by
  refine Den0.agg [.bool false, .slice (some ⟨gu, 0, none⟩) n n, .slice (some ⟨gl, 0, none⟩) n n, .slice (some ⟨gn, 0, none⟩) m m] _ rfl (fun v hv => ?_) (four_at (.bool _) (rowB_den hu hFu e1) (rowB_den hl hFl e2) (rowI_den hn hFn e3))
  simp only [List.mem_cons, List.not_mem_nil, or_false] at hv
  rcases hv with rfl | rfl | rfl | rfl <;> rfl
theorem rep_range {α : Type} (a : α) (n : Nat) : List.replicate n a = (List.range n).map fun _ => a := by
  simp [List.map_const']
theorem five_inv {vs : List Value} (h : vs.length = 5) : ∃ a b c d e, vs = [a, b, c, d, e] := by
  match vs, h with
  | [a, b, c, d, e], _ => exact ⟨a, b, c, d, e, rfl⟩
theorem four_inv {vs : List Value} (h : vs.length = 4) : ∃ a b c d, vs = [a, b, c, d] := by
  match vs, h with
  | [a, b, c, d], _ => exact ⟨a, b, c, d, rfl⟩
theorem den_sl {F : Nat → Nat → Prop} {w : World} {v : Value} {l : List D} (h : Den0 F w v (.list l)) : ∃ a c, v = .slice a l.length c := by
  cases h with
  | list a n c sz es vs h1 => exact ⟨a, c, by rw [h1]⟩
theorem plan_inv {c : Nat → Nat} {ν : Nat → Nat → Nat} {F : Nat → Nat → Prop} {w : World} {v : Value} {as_ rws cts ls : List D} {n : Int} (h : Den c ν F w v (.agg [.list as_, .list rws, .list cts, .list ls, .int .i64 n])) :
    ∃ v0 v1 a2 c2 v3, v = .agg #[v0, v1, .slice a2 cts.length c2, v3, .int .i64 n] ∧ v0.oneCell' = true ∧ v1.oneCell' = true ∧ v3.oneCell' = true ∧ Den0 F w v0 (.list as_) ∧ Den0 F w v1 (.list rws) ∧ Den0 F w (.slice a2 cts.length c2) (.list cts) ∧ Den0 F w v3 (.list ls) := by
  have h' := h.pureB_ rfl
  cases h' with
  | agg vs _ h1 h2 h3 =>
    obtain ⟨a, b, d, e, f, rfl⟩ := five_inv (by simpa using h1)
    have k0 := h3 0 _ _ rfl rfl
    have k1 := h3 1 _ _ rfl rfl
    have k2 := h3 2 _ _ rfl rfl
    have k3 := h3 3 _ _ rfl rfl
    have k4 := h3 4 _ _ rfl rfl
    obtain ⟨a2, c2, rfl⟩ := den_sl k2
    have : f = .int .i64 n := den0_i k4
    subst this
    exact ⟨a, b, a2, c2, e, rfl, h2 _ (by simp), h2 _ (by simp), h2 _ (by simp), k0, k1, k2, k3⟩
theorem ctx_inv {c : Nat → Nat} {ν : Nat → Nat → Nat} {F : Nat → Nat → Prop} {w : World} {v : Value} {up left nums : List D} {rt : Bool} (h : Den c ν F w v (.agg [.bool rt, .list up, .list left, .list nums])) :
    ∃ u1 u2 u3, v = .agg #[.bool rt, u1, u2, u3] ∧ u1.oneCell' = true ∧ u2.oneCell' = true ∧ u3.oneCell' = true ∧ Den0 F w u1 (.list up) ∧ Den0 F w u2 (.list left) ∧ Den0 F w u3 (.list nums) := by
  have h' := h.pureB_ rfl
  cases h' with
  | agg vs _ h1 h2 h3 =>
    obtain ⟨a, b, d, e, rfl⟩ := four_inv (by simpa using h1)
    have k0 := h3 0 _ _ rfl rfl
    have k1 := h3 1 _ _ rfl rfl
    have k2 := h3 2 _ _ rfl rfl
    have k3 := h3 3 _ _ rfl rfl
    have : a = .bool rt := den0_b k0
    subst this
    exact ⟨b, d, e, rfl, h2 _ (by simp), h2 _ (by simp), h2 _ (by simp), k1, k2, k3⟩
theorem smallI_inv {n : Int} (h : smallI n = true) : n ≤ 1000000 := by
  unfold smallI at h
  simpa using h
theorem extBl_ok : CallOK Tryz.prog extBl := by
  intro f args pbs d r pbs' h
  unfold extBl at h
  split at h
  · rename_i as_ rws cts ls n
    split at h
    · rename_i hc
      obtain ⟨hn, hm⟩ := hc
      simp only [Option.some.injEq, Prod.mk.injEq] at h
      obtain ⟨rfl, rfl, rfl⟩ := h
      refine ⟨⟨_, Tryz.func33, rfl⟩, fun vals w F μ hv hd hb _ hlt hg => ?_⟩
      match vals, hv with
      | [v], _ =>
        obtain ⟨v0, v1, a2, c2, v3, rfl, o0, o1, o3, k0, k1, k2, k3⟩ := plan_inv (hd 0 v _ rfl rfl)
        refine (blank_q w v0 v1 v3 a2 cts.length c2 n (smallI_inv hn) (by have := smallI_inv hm; omega) n.toNat rfl).mono ?_
        rintro e w' ⟨gu, gl, gn, rfl, hG, u1, u2, u3, u4, u5, u6, R1, R2, R3⟩
        refine (RetD.of hG (ctx_den R1 R2 R3 (fun o => .inr ⟨u1, R1.lt⟩) (fun o => .inr ⟨u2, R2.lt⟩) (fun o => .inr ⟨u3, R3.lt⟩) (rep_range _ _) (rep_range _ _) (rep_range _ _))).ret hlt
    · cases h
  · cases h
def orL (a m : List D) : List D := (List.range a.length).map fun i => .bool (atD a i || atD m i)
def extOr : Call := fun f args pbs => match f, args, pbs with
  | 12, [.list a, .list m], [] => if a.all isB = true ∧ m.all isB = true ∧ smallI a.length = true then some (.list (orL a m), [], []) else none
  | _, _, _ => none
theorem atN_atD {l : List D} (h : l.all isB = true) (i : Nat) : atN false (l.map boolD) (i : Int) = atD l i := by
  unfold atN atD
  rw [if_pos (Int.natCast_nonneg i), List.getD_eq_getElem?_getD]
  show ((l.map boolD)[i]?).getD false = boolD ((l[i]?).getD .bad)
  rw [List.getElem?_map]
  cases l[i]? <;> rfl
theorem atN_intD {l : List D} (h : l.all isI = true) (i : Nat) : atN 0 (l.map intD) (i : Int) = intD (l.getD i .bad) := by
  unfold atN
  rw [if_pos (Int.natCast_nonneg i), List.getD_eq_getElem?_getD]
  show ((l.map intD)[i]?).getD 0 = intD ((l[i]?).getD .bad)
  rw [List.getElem?_map]
  cases l[i]? <;> rfl
theorem extOr_ok : CallOK Tryz.prog extOr := by
  intro f args pbs d r pbs' h
  unfold extOr at h
  split at h
  · rename_i a m
    split at h
    · rename_i hc
      obtain ⟨ha, hm, hl⟩ := hc
      simp only [Option.some.injEq, Prod.mk.injEq] at h
      obtain ⟨rfl, rfl, rfl⟩ := h
      refine ⟨⟨_, Tryz.func12, rfl⟩, fun vals w F μ hv hd hb _ hlt hg => ?_⟩
      match vals, hv with
      | [u, v], _ =>
        obtain ⟨a1, c1, rfl, _, s1⟩ := bools_sl hlt (den_list0 (hd 0 u _ rfl rfl)) ha
        obtain ⟨a2, c2, rfl, _, s2⟩ := bools_sl hlt (den_list0 (hd 1 v _ rfl rfl)) hm
        refine (or_q w a1 a.length c1 (a.map boolD) (by rw [List.length_map]) s1 a2 m.length c2 (m.map boolD) (by rw [List.length_map]) s2 (by have := smallI_inv hl; omega)).mono ?_
        rintro e w' ⟨b, c, rfl, hc, hG, hr⟩
        refine (RetD.of hG ?_).ret hlt
        by_cases h0 : 0 < a.length
        · obtain ⟨g, cur, rfl, h1, h2, h3, h4⟩ := hr h0
          refine own_list (by unfold orL; rw [List.length_map, List.length_range]) hc (fun i => .bool (orV (a.map boolD) (m.map boolD) i)) (fun x hx => ?_) (fun i hi => ⟨.inr ⟨h1, h2.lt⟩, (h2.cell i).trans (h4 i hi), rfl⟩) fun i x hx => ?_
          · obtain ⟨k, _, rfl⟩ := List.mem_map.1 hx
            rfl
          · unfold orL at hx
            rw [List.getElem?_map] at hx
            obtain ⟨k, hk, rfl⟩ := Option.map_eq_some_iff.1 hx
            obtain ⟨hkl, hke⟩ := List.getElem?_eq_some_iff.1 hk
            rw [List.getElem_range] at hke
            subst hke
            unfold orV
            rw [atN_atD ha, atN_atD hm]
            exact .bool _
        · have e0 : a = [] := List.eq_nil_of_length_eq_zero (by omega)
          subst e0
          exact .list b 0 c 1 [] [] rfl hc (by decide) (fun e he => by cases he) rfl (.inl rfl) (fun i v x hv => by cases hv)
    · cases h
  · cases h
end Go.Av
namespace Go.Av
open Go.Proofs Go.RowKit Go.Proofs.YtaghfmgeccapbaaGreat
def tellV (a b : Int) (ks : List Int) (old tr : List Bool) (i : Nat) : Bool :=
  if (ks[i]?).getD 0 = a then atN false old i || atN false tr i else if (ks[i]?).getD 0 = b then atN false tr i else false
def KeptR (lo : Nat) (W : World) (ks : List Int) (K : Nat) (e : Ending) (W' : World) : Prop :=
  ∃ ka kc, e = .returned (.slice ka K kc) ∧ (∀ (i : Nat) (x : Int), ks[i]? = some x → ∃ b off, ka = some ⟨b, off, none⟩ ∧ (b < lo ∨ W.heap.size ≤ b) ∧ b < W'.heap.size ∧ ∀ (i : Nat) (x : Int), ks[i]? = some x → W'.cell? ⟨b, off + i, none⟩ = some (.int .i64 x)) ∧ Ge W W'
theorem grown_cell {a b : World} {g : Nat} (h : a.grownBy b (some g)) {p : Nat} (hp : p < a.heap.size) (hne : p ≠ g) (o : Nat) : b.cell? ⟨p, o, none⟩ = a.cell? ⟨p, o, none⟩ := by
  unfold World.cell?
  rw [h.block p hp (fun e => hne (Option.some.inj e))]
theorem rowIs_below {a b : World} {g : Nat} {t : TypeId} {n : Nat} {f : Nat → Value} (h : a.rowIs g t n f) (hb : Ge a b) : b.rowIs g t n f := h.of_block (hb.block g h.lt)
def fU (t : Nat → Bool) (k : Nat) : Nat → Value := fun i => .bool (decide (i < k) && t i)
theorem row_step {W : World} {gu N k : Nat} {T : Nat → Bool} {v : Bool} {f : Nat → Value} (hR : W.rowIs gu 4 N f) (hf : ∀ j, j < N → j ≠ k → f j = fU T k j) (hv : T k = v) : (W.setCell ⟨gu, k, none⟩ (.bool v)).rowIs gu 4 N (fU T (k + 1)) :=
  (hR.set k _).congr fun j hj => by
    by_cases h : j = k
    · rw [if_pos h, fU, h, decide_eq_true (Nat.lt_succ_self k), Bool.true_and, hv]
    · rw [if_neg h, hf j hj h, fU, fU]
      have : decide (j < k) = decide (j < k + 1) := decide_eq_decide.2 (by omega)
      rw [this]
theorem row_stay {W : World} {gu N k : Nat} {T : Nat → Bool} (hR : W.rowIs gu 4 N (fU T k)) (hv : T k = false) : W.rowIs gu 4 N (fU T (k + 1)) :=
  hR.congr fun j hj => by
    rw [fU, fU]
    by_cases h : j = k
    · rw [h, hv, Bool.and_false, Bool.and_false]
    · have : decide (j < k) = decide (j < k + 1) := decide_eq_decide.2 (by omega)
      rw [this]
set_option maxHeartbeats 8000000 in
theorem down_q (w : World) (v0 v1 v3 lv nv : Value) (a2 : Option Addr) (m c2 : Nat) (n : Int) (hn : n ≤ 1000000) (hm : m ≤ 1000000) (N : Nat) (hN : N = n.toNat) (rt : Bool) (ua : Option Addr) (un uc : Nat) (ups : List Bool) (hun : un = ups.length) (hU : Sl w w.heap.size ua (ups.map Value.bool))
    (ta : Option Addr) (tn tc : Nat) (trs : List Bool) (htn : tn = trs.length) (hT : Sl w w.heap.size ta (trs.map Value.bool)) (o0 : v0.oneCell' = true) (o1 : v1.oneCell' = true) (o3 : v3.oneCell' = true) (ol : lv.oneCell' = true) (on : nv.oneCell' = true)
    (ks : List Int) (K : Nat) (hKl : K = ks.length) (hks : K ≤ 1000000) (hK : ∀ W, Ge w W → Calls Tryz.prog 34 #[.agg #[v0, v1, .slice a2 m c2, v3, .int .i64 n]] W (KeptR w.heap.size W ks K)) :
    Calls Tryz.prog 13 #[.agg #[v0, v1, .slice a2 m c2, v3, .int .i64 n], .agg #[.bool rt, .slice ua un uc, lv, nv], .slice ta tn tc] w fun e w' => ∃ gu gl gn, e = .returned (.agg #[.bool false, .slice (some ⟨gu, 0, none⟩) N N, .slice (some ⟨gl, 0, none⟩) N N, .slice (some ⟨gn, 0, none⟩) m m]) ∧ Ge w w' ∧
      w.heap.size ≤ gu ∧ w.heap.size ≤ gl ∧ w.heap.size ≤ gn ∧ gu ≠ gl ∧ gu ≠ gn ∧ gl ≠ gn ∧ w'.rowIs gu 4 N (fun i => .bool (tellV 1 2 ks ups trs i)) ∧ w'.rowIs gl 4 N (fun _ => .bool false) ∧ w'.rowIs gn 3 m (fun _ => .int .i64 0) := by
  have HUN := Lib.hid hun
  have HTN := Lib.hid htn
  have HKL := Lib.hid hKl
  have HN := Lib.hid hN
  clear hun htn hKl hN
  have G0 : Ge w (((w.alloc (.cells #[v0, v1, .slice a2 m c2, v3, .int .i64 n] 36)).alloc (.cells #[.bool rt, .slice ua un uc, lv, nv] 45)).alloc (.cells #[.bool false, .slice none 0 0, .slice none 0 0, .slice none 0 0] 45)) := (((Below.refl _ w).alloc (Nat.le_refl _) _).alloc (by simp) _).alloc (by simp; omega) _
  have B3 : Bk (((w.alloc (.cells #[v0, v1, .slice a2 m c2, v3, .int .i64 n] 36)).alloc (.cells #[.bool rt, .slice ua un uc, lv, nv] 45)).alloc (.cells #[.bool false, .slice none 0 0, .slice none 0 0, .slice none 0 0] 45)) w.heap.size 36 #[v0, v1, .slice a2 m c2, v3, .int .i64 n] := ((Bk.new _ _ _).alloc _).alloc _
  have B4 : Bk (((w.alloc (.cells #[v0, v1, .slice a2 m c2, v3, .int .i64 n] 36)).alloc (.cells #[.bool rt, .slice ua un uc, lv, nv] 45)).alloc (.cells #[.bool false, .slice none 0 0, .slice none 0 0, .slice none 0 0] 45)) (w.heap.size + 1) 45 #[.bool rt, .slice ua un uc, lv, nv] := (by simpa using Bk.new (w.alloc (.cells #[v0, v1, .slice a2 m c2, v3, .int .i64 n] 36)) 45 #[.bool rt, .slice ua un uc, lv, nv] : Bk _ (w.heap.size + 1) _ _).alloc _
  have B6 : Bk (((w.alloc (.cells #[v0, v1, .slice a2 m c2, v3, .int .i64 n] 36)).alloc (.cells #[.bool rt, .slice ua un uc, lv, nv] 45)).alloc (.cells #[.bool false, .slice none 0 0, .slice none 0 0, .slice none 0 0] 45)) (w.heap.size + 1 + 1) 45 #[.bool false, .slice none 0 0, .slice none 0 0, .slice none 0 0] := by simpa using Bk.new ((w.alloc (.cells #[v0, v1, .slice a2 m c2, v3, .int .i64 n] 36)).alloc (.cells #[.bool rt, .slice ua un uc, lv, nv] 45)) 45 #[.bool false, .slice none 0 0, .slice none 0 0, .slice none 0 0]
  go_enter Tryz.func13, Tryz.ntmps13
  go_wp2_with (first
    | (go_at_call 33; refine (blank_q _ v0 v1 v3 a2 m c2 n hn hm N HN.out).mono ?_; rintro e w1 ⟨gu, gl, gn, rfl, G1, u1, u2, u3, u4, u5, u6, R1, R2, R3⟩; have H3 := (B3.below G1 B3.lt).alloc (.cells #[.bool false, .slice (some ⟨gu, 0, none⟩) N N, .slice (some ⟨gl, 0, none⟩) N N, .slice (some ⟨gn, 0, none⟩) m m] 45); have c0 := H3.cell 0; have c1 := H3.cell 1; have c2' := H3.cell 2; have c3 := H3.cell 3; have c4 := H3.cell 4; simp only [List.getElem?_toArray, List.getElem?_cons_succ, List.getElem?_cons_zero] at c0 c1 c2' c3 c4; have G2 : Ge w (w1.alloc (.cells #[.bool false, .slice (some ⟨gu, 0, none⟩) N N, .slice (some ⟨gl, 0, none⟩) N N, .slice (some ⟨gn, 0, none⟩) m m] 45)) := (G0.tr G1).new _)
    | (go_at_call 34; refine (hK _ G2).mono ?_; rintro e w3 ⟨ka, kc, rfl, hka, G3⟩))
  obtain ⟨g7, H7⟩ : ∃ z, z = w1.heap.size := ⟨_, rfl⟩
  have B7 : Bk w3 g7 45 #[.bool false, .slice (some ⟨gu, 0, none⟩) N N, .slice (some ⟨gl, 0, none⟩) N N, .slice (some ⟨gn, 0, none⟩) m m] := by rw [H7]; exact (Bk.new w1 _ _).below G3 (by simp)
  have B4' := ((B4.below G1 B4.lt).alloc (.cells #[.bool false, .slice (some ⟨gu, 0, none⟩) N N, .slice (some ⟨gl, 0, none⟩) N N, .slice (some ⟨gn, 0, none⟩) m m] 45)).below G3 ((B4.below G1 B4.lt).alloc (.cells #[.bool false, .slice (some ⟨gu, 0, none⟩) N N, .slice (some ⟨gl, 0, none⟩) N N, .slice (some ⟨gn, 0, none⟩) m m] 45)).lt
  have B6' := ((B6.below G1 B6.lt).alloc (.cells #[.bool false, .slice (some ⟨gu, 0, none⟩) N N, .slice (some ⟨gl, 0, none⟩) N N, .slice (some ⟨gn, 0, none⟩) m m] 45)).below G3 ((B6.below G1 B6.lt).alloc (.cells #[.bool false, .slice (some ⟨gu, 0, none⟩) N N, .slice (some ⟨gl, 0, none⟩) N N, .slice (some ⟨gn, 0, none⟩) m m] 45)).lt
  have R1' := rowIs_below (R1.alloc (.cells #[.bool false, .slice (some ⟨gu, 0, none⟩) N N, .slice (some ⟨gl, 0, none⟩) N N, .slice (some ⟨gn, 0, none⟩) m m] 45)) G3
  have R2' := rowIs_below (R2.alloc (.cells #[.bool false, .slice (some ⟨gu, 0, none⟩) N N, .slice (some ⟨gl, 0, none⟩) N N, .slice (some ⟨gn, 0, none⟩) m m] 45)) G3
  have R3' := rowIs_below (R3.alloc (.cells #[.bool false, .slice (some ⟨gu, 0, none⟩) N N, .slice (some ⟨gl, 0, none⟩) N N, .slice (some ⟨gn, 0, none⟩) m m] 45)) G3
  have GE : Ge w w3 := G2.tr G3
  have l1 : gu < g7 := by rw [H7]; exact R1.lt
  have l2 : gl < g7 := by rw [H7]; exact R2.lt
  have l3 : gn < g7 := by rw [H7]; exact R3.lt
  have z0 : (((w.alloc (.cells #[v0, v1, .slice a2 m c2, v3, .int .i64 n] 36)).alloc (.cells #[.bool rt, .slice ua un uc, lv, nv] 45)).alloc (.cells #[.bool false, .slice none 0 0, .slice none 0 0, .slice none 0 0] 45)).heap.size = w.heap.size + 3 := by simp
  have z2 : (w1.alloc (.cells #[.bool false, .slice (some ⟨gu, 0, none⟩) N N, .slice (some ⟨gl, 0, none⟩) N N, .slice (some ⟨gn, 0, none⟩) m m] 45)).heap.size = g7 + 1 := by rw [H7]; simp
  rw [z0] at u1 u2 u3
  rw [z2] at hka
  rw [← H7]
  have HU1 := Lib.hid u1; have HU2 := Lib.hid u2; have HU3 := Lib.hid u3; have HU4 := Lib.hid u4; have HU5 := Lib.hid u5; have HU6 := Lib.hid u6
  have HL1 := Lib.hid l1; have HL2 := Lib.hid l2; have HL3 := Lib.hid l3
  have HKA := Lib.hid hka
  have HGE := Lib.hid GE
  have HR2 := Lib.hid R2'; have HR3 := Lib.hid R3'
  have HB7 := Lib.hid B7; have HB4 := Lib.hid B4'; have HB6 := Lib.hid B6'
  have hz : fU (tellV 1 2 ks ups trs) 0 = fun _ => .bool false := by funext i; simp [fU]
  rw [← hz] at R1'
  have HR1 := Lib.hid R1'
  obtain ⟨T, hT'⟩ : ∃ z, z = tellV 1 2 ks ups trs := ⟨_, rfl⟩
  have HT' := Lib.hid hT'
  rw [← hT'] at HR1
  clear u1 u2 u3 u4 u5 u6 l1 l2 l3 hka GE R1 R2 R3 R1' R2' R3' B7 B4 B6 B4' B6' B3 H3 c0 c1 c2' c3 c4 G0 G1 G2 G3 z0 z2 H7 hK hz hT'
  have HSU := Lib.hid hU; have HST := Lib.hid hT
  clear hU hT
  go_loopw [15] (fun v wr => ∃ k : Nat, v = .int .i64 k ∧ k ≤ K ∧ k ≤ N ∧ w3.grownBy wr (some gu) ∧ wr.rowIs gu 4 N (fU T k)) (fun v _ => K - (intOf v).toNat)
  case atStart => exact ⟨0, rfl, Nat.zero_le _, Nat.zero_le _, grown_refl _ _, HR1.out⟩
  case round =>
    rename World => wr
    obtain ⟨k, rfl, hkK, hkN, hg, hR⟩ := hrel
    have n7 : gu ≠ g7 := Nat.ne_of_lt HL1.out
    have n4 : gu ≠ w.heap.size + 1 := by have := HU1.out; omega
    have n6 : gu ≠ w.heap.size + 1 + 1 := by have := HU1.out; omega
    have m6 : gl ≠ w.heap.size + 1 + 1 := by have := HU2.out; omega
    have k6 : gn ≠ w.heap.size + 1 + 1 := by have := HU3.out; omega
    have b7 := (HB7.out).grown hg (fun e => n7 (Option.some.inj e).symm)
    have b4 := (HB4.out).grown hg (fun e => n4 (Option.some.inj e).symm)
    have b6 := (HB6.out).grown hg (fun e => n6 (Option.some.inj e).symm)
    have c1 := b7.cell 1
    have c4 := b4.cell 1
    simp only [List.getElem?_toArray, List.getElem?_cons_succ, List.getElem?_cons_zero] at c1 c4
    by_cases hk : k < K
    · obtain ⟨x, hx⟩ : ∃ x, ks[k]? = some x := ⟨_, List.getElem?_eq_getElem (by rw [← HKL.out]; exact hk)⟩
      obtain ⟨b, off, rfl, hb1, hb2, hbc⟩ := HKA.out k x hx
      have hbn : b ≠ gu := by have := HU1.out; have := HL1.out; omega
      have q := (grown_cell hg hb2 hbn (off + k)).trans (hbc k x hx)
      by_cases hN2 : k < N
      · have hrc := hR.cell hN2
        have hrf := hR.frozen k
        have hr0 : fU T k k = .bool false := by simp [fU]
        rw [hr0] at hrc
        have hSW : Sl wr w.heap.size ua (ups.map Value.bool) := (HSU.out.below (HGE.out)).keep fun b o hb => grown_cell hg (Nat.lt_of_lt_of_le hb HGE.out.size) (by have := HU1.out; omega) o
        have hTW : Sl wr w.heap.size ta (trs.map Value.bool) := (HST.out.below (HGE.out)).keep fun b o hb => grown_cell hg (Nat.lt_of_lt_of_le hb HGE.out.size) (by have := HU1.out; omega) o
        have HX := Lib.hid hx
        have HSW := Lib.hid hSW; have HTW := Lib.hid hTW
        clear hSW hTW hbc hb1 hb2 hx b6 b4 b7
        by_cases x1 : x = 1
        · subst x1
          go_wp2_with fail
          refine wp_region_still_tail 8 mx12 (by kernel_rfl) ?_
          simp only [List.take_succ_cons, List.take_zero, List.drop_succ_cons, List.drop_zero]
          repeat still_step
          still_call (at_s ups (k : Int) _ w.heap.size ua un uc HUN.out (by exact HSW.out))
          repeat still_step
          refine wpStill_nil ?_
          change wpList _ _ _ _ _ wr.drew
          go_wp2_with fail
          have tk : T k = (atN false ups (k : Int) || atN false trs (k : Int)) := by
            rw [HT'.out]
            unfold tellV
            rw [HX.out]
            rfl
          generalize atN false ups (k : Int) = vb at *
          obtain ⟨W9, hW9⟩ : ∃ z, z = (wr.setCell ⟨gu, k, none⟩ (.bool vb)).drew := ⟨_, rfl⟩
          rw [← hW9]
          have g9 : w3.grownBy W9 (some gu) := by rw [hW9]; exact grown_drew (grown_put hg rfl _)
          have r9 : W9.rowIs gu 4 N (fun j => if j = k then .bool vb else fU T k j) := by rw [hW9]; exact (hR.set k _).drew
          clear hW9
          have C1 := (HB7.out.grown g9 (fun e => n7 (Option.some.inj e).symm)).cell 1
          simp only [List.getElem?_toArray, List.getElem?_cons_succ, List.getElem?_cons_zero] at C1
          have CR := r9.cell hN2
          rw [if_pos rfl] at CR
          have CF := r9.frozen k
          have hTW9 : Sl W9 w.heap.size ta (trs.map Value.bool) := (HST.out.below (HGE.out)).keep fun b o hb => grown_cell g9 (Nat.lt_of_lt_of_le hb HGE.out.size) (by have := HU1.out; omega) o
          have HTW9 := Lib.hid hTW9; have HG9 := Lib.hid g9; have HR9 := Lib.hid r9; have HTK := Lib.hid tk
          clear hTW9 g9 r9 tk hg hR q hrc hrf c1 c4 HSW HTW
          cases vb with
          | true =>
            refine wp_region_still_tail 14 mx12 (by kernel_rfl) ?_
            simp only [List.take_succ_cons, List.take_zero, List.drop_succ_cons, List.drop_zero]
            repeat still_step
            refine wpStill_nil ?_
            change wpList _ _ _ _ _ W9.drew
            go_wp2_with fail
            refine ⟨⟨k + 1, by simp, by omega, by omega, grown_drew (grown_put HG9.out rfl _), ?_⟩, ?_⟩
            · exact (row_step HR9.out (fun j _ hj => if_neg hj) (by rw [HTK.out]; simp)).drew
            · simp [intOf]; omega
          | false =>
            refine wp_region_still_tail 14 mx12 (by kernel_rfl) ?_
            simp only [List.take_succ_cons, List.take_zero, List.drop_succ_cons, List.drop_zero]
            repeat still_step
            still_call (at_s trs (k : Int) _ w.heap.size ta tn tc HTN.out (by exact HTW9.out))
            repeat still_step
            refine wpStill_nil ?_
            change wpList _ _ _ _ _ W9.drew
            go_wp2_with fail
            refine ⟨⟨k + 1, by simp, by omega, by omega, grown_drew (grown_put HG9.out rfl _), ?_⟩, ?_⟩
            · exact (row_step HR9.out (fun j _ hj => if_neg hj) (by rw [HTK.out]; simp)).drew
            · simp [intOf]; omega
        · have x1b : (x == 1) = false := by simpa using x1
          by_cases x2 : x = 2
          · subst x2
            clear x1
            have tk : T k = (false || atN false trs (k : Int)) := by
              rw [HT'.out]
              unfold tellV
              rw [HX.out]
              rfl
            obtain ⟨W9, hW9⟩ : ∃ z, z = wr := ⟨_, rfl⟩
            have g9 : w3.grownBy W9 (some gu) := by rw [hW9]; exact hg
            have r9 : W9.rowIs gu 4 N (fun j => if j = k then .bool false else fU T k j) := by
              rw [hW9]
              exact hR.congr fun j hj => by
                by_cases h : j = k
                · rw [if_pos h, h, hr0]
                · rw [if_neg h]
            go_wp2_with fail
            rw [← hW9]
            clear hW9
            have C1 := (HB7.out.grown g9 (fun e => n7 (Option.some.inj e).symm)).cell 1
            simp only [List.getElem?_toArray, List.getElem?_cons_succ, List.getElem?_cons_zero] at C1
            have CR := r9.cell hN2
            rw [if_pos rfl] at CR
            have CF := r9.frozen k
            have hTW9 : Sl W9 w.heap.size ta (trs.map Value.bool) := (HST.out.below (HGE.out)).keep fun b o hb => grown_cell g9 (Nat.lt_of_lt_of_le hb HGE.out.size) (by have := HU1.out; omega) o
            have HTW9 := Lib.hid hTW9; have HG9 := Lib.hid g9; have HR9 := Lib.hid r9; have HTK := Lib.hid tk
            clear hTW9 g9 r9 tk hg hR q hrc hrf c1 c4 HSW HTW
            refine wp_region_still_tail 14 mx12 (by kernel_rfl) ?_
            simp only [List.take_succ_cons, List.take_zero, List.drop_succ_cons, List.drop_zero]
            repeat still_step
            still_call (at_s trs (k : Int) _ w.heap.size ta tn tc HTN.out (by exact HTW9.out))
            repeat still_step
            refine wpStill_nil ?_
            change wpList _ _ _ _ _ W9.drew
            go_wp2_with fail
            refine ⟨⟨k + 1, by simp, by omega, by omega, grown_drew (grown_put HG9.out rfl _), ?_⟩, ?_⟩
            · exact (row_step HR9.out (fun j _ hj => if_neg hj) (by rw [HTK.out]; simp)).drew
            · simp [intOf]; omega
          · have x2b : (x == 2) = false := by simpa using x2
            have ht : T k = false := by
              rw [HT'.out]
              unfold tellV
              rw [HX.out, Option.getD_some, if_neg x1, if_neg x2]
            clear x1 x2
            have HTK := Lib.hid ht
            clear ht
            go_wp2_with fail
            exact ⟨⟨k + 1, by simp, by omega, by omega, hg, row_stay hR HTK.out⟩, by simp [intOf]; omega⟩
      · have e0 := b7.cell 0; have e1 := b7.cell 1; have e2 := b7.cell 2; have e3 := b7.cell 3
        have f0 := b6.free 0; have f1 := b6.free 1; have f2 := b6.free 2; have f3 := b6.free 3
        have d0 := b6.cell 0; have d1 := b6.cell 1; have d2 := b6.cell 2; have d3 := b6.cell 3
        simp only [List.getElem?_toArray, List.getElem?_cons_succ, List.getElem?_cons_zero] at e0 e1 e2 e3 d0 d1 d2 d3
        have H6 := Lib.hid b6
        clear b6 b7 b4 c1 c4
        go_wp2_with fail
        clear e0 e1 e2 e3 d0 d1 d2 d3 f0 f1 f2 f3
        have bF := (((H6.out.put 0 (.bool false)).put 1 (.slice (some ⟨gu, 0, none⟩) N N)).put 2 (.slice (some ⟨gl, 0, none⟩) N N)).put 3 (.slice (some ⟨gn, 0, none⟩) m m)
        have z0 := bF.cell 0; have z1 := bF.cell 1; have z2 := bF.cell 2; have z3 := bF.cell 3
        simp at z0 z1 z2 z3
        have hR' : wr.rowIs gu 4 N (fun i => .bool (T i)) := hR.congr fun i hi => by
          rw [fU]; rw [decide_eq_true (show i < k by omega), Bool.true_and]
        refine ⟨rfl, .agg #[.bool false, .slice (some ⟨gu, 0, none⟩) N N, .slice (some ⟨gl, 0, none⟩) N N, .slice (some ⟨gn, 0, none⟩) m m], ?_, gu, gl, gn, rfl, ?_, ?_, ?_, ?_, HU4.out, HU5.out, HU6.out, ?_, ?_, ?_⟩
        · simp [results, go_sem, z0, z1, z2, z3, Tryz.f13]
        · exact ge_put (ge_put (ge_put (ge_put (below_of_grown_row HGE.out hg (by have := HU1.out; omega)) (by show _ ≤ w.heap.size + 1 + 1; omega) _) (by show _ ≤ w.heap.size + 1 + 1; omega) _) (by show _ ≤ w.heap.size + 1 + 1; omega) _) (by show _ ≤ w.heap.size + 1 + 1; omega) _
        · have := HU1.out; omega
        · have := HU2.out; omega
        · have := HU3.out; omega
        · rw [← HT'.out]; exact (((hR'.setOther n6 _).setOther n6 _).setOther n6 _).setOther n6 _
        · exact ((((HR2.out.of_block (hg.block gl HR2.out.lt (fun e => HU4.out (Option.some.inj e).symm))).setOther m6 _).setOther m6 _).setOther m6 _).setOther m6 _
        · exact ((((HR3.out.of_block (hg.block gn HR3.out.lt (fun e => HU5.out (Option.some.inj e).symm))).setOther k6 _).setOther k6 _).setOther k6 _).setOther k6 _
    · have e0 := b7.cell 0; have e1 := b7.cell 1; have e2 := b7.cell 2; have e3 := b7.cell 3
      have f0 := b6.free 0; have f1 := b6.free 1; have f2 := b6.free 2; have f3 := b6.free 3
      have d0 := b6.cell 0; have d1 := b6.cell 1; have d2 := b6.cell 2; have d3 := b6.cell 3
      simp only [List.getElem?_toArray, List.getElem?_cons_succ, List.getElem?_cons_zero] at e0 e1 e2 e3 d0 d1 d2 d3
      have H6 := Lib.hid b6
      clear b6 b7 b4 c1 c4
      go_wp2_with fail
      clear e0 e1 e2 e3 d0 d1 d2 d3 f0 f1 f2 f3
      have bF := (((H6.out.put 0 (.bool false)).put 1 (.slice (some ⟨gu, 0, none⟩) N N)).put 2 (.slice (some ⟨gl, 0, none⟩) N N)).put 3 (.slice (some ⟨gn, 0, none⟩) m m)
      have z0 := bF.cell 0; have z1 := bF.cell 1; have z2 := bF.cell 2; have z3 := bF.cell 3
      simp at z0 z1 z2 z3
      have hR' : wr.rowIs gu 4 N (fun i => .bool (T i)) := hR.congr fun i hi => by
        rw [fU]
        by_cases hik : i < k
        · rw [decide_eq_true hik, Bool.true_and]
        · have hz : ks[i]? = none := List.getElem?_eq_none (by have := HKL.out; omega)
          rw [decide_eq_false hik, Bool.false_and, HT'.out]
          unfold tellV
          rw [hz]
          rfl
      refine ⟨rfl, .agg #[.bool false, .slice (some ⟨gu, 0, none⟩) N N, .slice (some ⟨gl, 0, none⟩) N N, .slice (some ⟨gn, 0, none⟩) m m], ?_, gu, gl, gn, rfl, ?_, ?_, ?_, ?_, HU4.out, HU5.out, HU6.out, ?_, ?_, ?_⟩
      · simp [results, go_sem, z0, z1, z2, z3, Tryz.f13]
      · exact ge_put (ge_put (ge_put (ge_put (below_of_grown_row HGE.out hg (by have := HU1.out; omega)) (by show _ ≤ w.heap.size + 1 + 1; omega) _) (by show _ ≤ w.heap.size + 1 + 1; omega) _) (by show _ ≤ w.heap.size + 1 + 1; omega) _) (by show _ ≤ w.heap.size + 1 + 1; omega) _
      · have := HU1.out; omega
      · have := HU2.out; omega
      · have := HU3.out; omega
      · rw [← HT'.out]; exact (((hR'.setOther n6 _).setOther n6 _).setOther n6 _).setOther n6 _
      · exact ((((HR2.out.of_block (hg.block gl HR2.out.lt (fun e => HU4.out (Option.some.inj e).symm))).setOther m6 _).setOther m6 _).setOther m6 _).setOther m6 _
      · exact ((((HR3.out.of_block (hg.block gn HR3.out.lt (fun e => HU5.out (Option.some.inj e).symm))).setOther k6 _).setOther k6 _).setOther k6 _).setOther k6 _
end Go.Av
namespace Go.Av
open Go.Proofs Go.RowKit Go.Proofs.YtaghfmgeccapbaaGreat
theorem tellV_D {a b : Int} {kept old tr : List D} (hk : kept.all isI = true) (ho : old.all isB = true) (ht : tr.all isB = true) (i : Nat) : tellV a b (kept.map intD) (old.map boolD) (tr.map boolD) i = tellD a b kept old tr i := by
  unfold tellV tellD
  rw [atN_atD ho, atN_atD ht]
  have : ((kept.map intD)[i]?).getD 0 = intD (kept.getD i .bad) := by
    rw [List.getElem?_map, List.getD_eq_getElem?_getD]
    cases kept[i]? <;> rfl
  rw [this]
theorem kept_of {F : Nat → Nat → Prop} {w : World} {v : Value} {l : List D} {lo : Nat} {W : World} (h : Den0 F w v (.list l)) (hb : l.all isI = true) (hn : ∀ b o, F b o → b < lo ∨ W.heap.size ≤ b) (hlt : Lt F w) : ∃ ka kc, v = .slice ka l.length kc ∧
    ∀ (i : Nat) (x : Int), (l.map intD)[i]? = some x → ∃ b off, ka = some ⟨b, off, none⟩ ∧ (b < lo ∨ W.heap.size ≤ b) ∧ b < w.heap.size ∧ ∀ (i : Nat) (x : Int), (l.map intD)[i]? = some x → w.cell? ⟨b, off + i, none⟩ = some (.int .i64 x) := by
  have h1 : ∀ e ∈ l, dcells e = [e] := fun e he => by rw [isI_inv (List.all_eq_true.1 hb e he)]; rfl
  cases h with
  | list a n c sz es vs g1 g2 g3 g4 g5 g6 g7 =>
    subst g1
    refine ⟨a, c, rfl, fun i x hi => ?_⟩
    have hpos : 0 < l.length := by
      have := (List.getElem?_eq_some_iff.1 hi).1
      rw [List.length_map] at this
      omega
    have hsz : sz = 1 := by
      have := g4 _ (List.getElem_mem hpos)
      rw [h1 _ (List.getElem_mem hpos)] at this
      exact this.symm
    subst hsz
    rcases g6 with g6 | ⟨b, off, rfl, hc⟩
    · rw [g6] at g5
      simp at g5
      omega
    · have h0 : vs[0]? = some vs[0] := List.getElem?_eq_getElem (by omega)
      have hF := (hc 0 _ h0).1
      refine ⟨b, off, rfl, hn _ _ hF, hlt _ _ hF, fun j y hj => ?_⟩
      rw [List.getElem?_map] at hj
      obtain ⟨d, hd, rfl⟩ := Option.map_eq_some_iff.1 hj
      have hjl := (List.getElem?_eq_some_iff.1 hd).1
      have hv : vs[j]? = some vs[j] := List.getElem?_eq_getElem (by omega)
      have h2 := g7 j _ d hv (by rw [flat_1x h1]; exact hd)
      have h3 := isI_inv (List.all_eq_true.1 hb d (List.mem_of_getElem? hd))
      rw [h3] at h2
      have h4 := den0_i h2
      have h5 := (hc j _ hv).2.1
      rw [h4] at h5
      exact h5
theorem kept_call {call : Call} (hc : CallOK Tryz.prog call) {F : Nat → Nat → Prop} {w : World} {v : Value} {pd : D} {kept : List D} {r : List Room} (hlt : Lt F w) (hg : GOK F w) (hv : Den0 F w v pd) (he : call 34 [pd] [] = some (.list kept, r, [])) (hk : kept.all isI = true) :
    ∀ W, Ge w W → Calls Tryz.prog 34 #[v] W (KeptR w.heap.size W (kept.map intD) kept.length) := by
  intro W hG
  have hE : Ext (fun _ => False) F w F W := ⟨hG.os, hG.tape, hG.output, hG.size, fun b h _ => hG.block b h, fun b o h => h, fun b o h => by unfold World.cell?; rw [hG.block b (hlt b o h)], fun b es c hf hm => (hG.block b (hlt b 0 hf)).trans hm⟩
  refine ((hc 34 [pd] [] _ _ _ he).2 [v] W F mu0 rfl (fun i u x hu hx => ?_) (fun i bx hb => by cases hb) (given0 W) (lt_ge hlt hG) (hg.ext hE)).mono ?_
  · match i, hu, hx with
    | 0, hu, hx =>
      simp at hu hx
      subst hu hx
      exact .pure _ _ (den_ge hv hlt hG)
    | i + 1, hu, _ => simp at hu
  · rintro e W' ⟨u, F', nc, rfl, hE', hlt', hn', hden, _⟩
    rcases hden with ⟨_, hden, _⟩ | ⟨h1, _⟩
    · have h0 := (hden (fun _ => 0) fun _ _ => 0).list_
      obtain ⟨ka, kc, rfl, hka⟩ := kept_of (lo := w.heap.size) (W := W) h0 hk (fun b o hf => by
        rcases hn' b o hf with h | h | h
        · exact .inl (hlt b o h)
        · exact .inr h
        · exact absurd h (C_zero _ b)) hlt'
      exact ⟨ka, kc, rfl, hka, ⟨hE'.os, hE'.tape, hE'.output, hE'.size, fun b hb => hE'.block b hb (S_zero _ b)⟩⟩
    · simp at h1
theorem plan_D {c : Nat → Nat} {ν : Nat → Nat → Nat} {F : Nat → Nat → Prop} {w : World} {v : Value} {as_ rws cts ls : List D} {n : Int} (h : Den c ν F w v (.agg [.list as_, .list rws, .list cts, .list ls, .int .i64 n])) : Den0 F w v (.agg [.list as_, .list rws, .list cts, .list ls, .int .i64 n]) := h.pureB_ rfl
set_option maxHeartbeats 2000000 in
theorem down_any {call : Call} (hc : CallOK Tryz.prog call) {as_ rws cts ls kept up left nums tr : List D} {n : Int} {rt : Bool} {r : List Room} (he : call 34 [.agg [.list as_, .list rws, .list cts, .list ls, .int .i64 n]] [] = some (.list kept, r, [])) (hn : smallI n = true) (hm : smallI cts.length = true) (hk : kept.all isI = true) (hu : up.all isB = true) (ht : tr.all isB = true) (hkl : smallI kept.length = true)
    (vals : List Value) (w : World) (F : Nat → Nat → Prop) (μ : Mu) (hv : vals.length = 3) (hd : ∀ (i : Nat) (v : Value) (x : D), vals[i]? = some v → [D.agg [.list as_, .list rws, .list cts, .list ls, .int .i64 n], .agg [.bool rt, .list up, .list left, .list nums], .list tr][i]? = some x → Den (fun _ => 1) (argNu μ) F w v x) (hlt : Lt F w) (hg : GOK F w) :
    Calls Tryz.prog 13 vals.toArray w (RetD F w (downD n kept up tr cts)) := by
  match vals, hv with
  | [p, q, t], _ =>
    have dp := hd 0 p _ rfl rfl
    have hp0 := plan_D dp
    obtain ⟨v0, v1, a2, c2, v3, rfl, o0, o1, o3, k0, k1, k2, k3⟩ := plan_inv dp
    obtain ⟨u1, u2, u3, rfl, oo1, oo2, oo3, d1, d2, d3⟩ := ctx_inv (hd 1 q _ rfl rfl)
    obtain ⟨ua, uc, rfl, _, hU⟩ := bools_sl hlt d1 hu
    obtain ⟨ta, tc, rfl, _, hT⟩ := bools_sl hlt (den_list0 (hd 2 t _ rfl rfl)) ht
    have hK := kept_call hc hlt hg hp0 he hk
    refine (down_q w v0 v1 v3 u2 u3 a2 cts.length c2 n (smallI_inv hn) (by have := smallI_inv hm; omega) n.toNat rfl rt ua up.length uc (up.map boolD) (by rw [List.length_map]) hU ta tr.length tc (tr.map boolD) (by rw [List.length_map]) hT o0 o1 o3 oo2 oo3 (kept.map intD) kept.length (by rw [List.length_map]) (by have := smallI_inv hkl; omega) hK).mono ?_
    rintro e w' ⟨gu, gl, gn, rfl, hG, z1, z2, z3, z4, z5, z6, R1, R2, R3⟩
    exact RetD.of hG (ctx_den R1 R2 R3 (fun o => .inr ⟨z1, R1.lt⟩) (fun o => .inr ⟨z2, R2.lt⟩) (fun o => .inr ⟨z3, R3.lt⟩) (by unfold tellL; exact List.map_congr_left fun i _ => by rw [tellV_D hk hu ht]) (rep_range _ _) (rep_range _ _))
end Go.Av
namespace Go.Av
open Go.Proofs Go.RowKit Go.Proofs.YtaghfmgeccapbaaGreat
theorem sz4 : (Tryz.prog.info? 4).map (·.size) = some 1 := by kernel_rfl
theorem copy_law {ops : Array Oper} {rest : List Oper} {o : Oper} {a : Act} {Q : Exit → Act → World → Prop} {w : World} (hgd : o.guard = none) (d s : Operand) (ho : o.op = .call { callee := .builtin .copy, args := #[d, s], argTypes := #[42, 42] })
    (gu N : Nat) (B : Nat) (ua : Option Addr) (un uc : Nat) (ups : List Bool) (hd : a.eval d = .slice (some ⟨gu, 0, none⟩) N N) (hs : a.eval s = .slice ua un uc) (hun : un = ups.length) (hR : w.rowIs gu 4 N (fun _ => .bool false)) (hU : Sl w B ua (ups.map Value.bool))
    (h : ∀ (w' : World) (z : Value), w.grownBy w' (some gu) → w'.rowIs gu 4 N (fun i => .bool (atN false ups (i : Int))) → wpList Tryz.prog ops Q rest (a.put o.dst z) w') : wpList Tryz.prog ops Q (o :: rest) a w := by
  subst hun
  have hat : ∀ i : Nat, atN false ups (i : Int) = (ups[i]?).getD false := fun i => by
    unfold atN
    rw [if_pos (Int.natCast_nonneg i)]
    rfl
  by_cases h0 : Nat.min ups.length N = 0
  · refine wpList_copy_nothing hgd d s 42 42 ho 4 und42 sz4 _ _ N N ups.length uc hd hs h0 (h w _ (grown_refl w _) (hR.congr fun i hi => ?_))
    have hz : ups.length = 0 := by
      have : Nat.min ups.length N = min ups.length N := rfl
      omega
    rw [hat, List.getElem?_eq_none (by omega)]
    rfl
  · have hz : 0 < ups.length := by
      have : Nat.min ups.length N = min ups.length N := rfl
      omega
    obtain ⟨b, off, rfl, hb, hc⟩ := hU.open_ (k := 0) (by rw [List.length_map]; exact hz)
    obtain ⟨cur, hg, hcs, hcc⟩ := hR
    have hl : ((ups.take N).map Value.bool).length = Nat.min ups.length N := by
      rw [List.length_map, List.length_take]
      exact Nat.min_comm _ _
    refine wpList_copy_own hgd d s 42 42 ho 4 und42 sz4 gu 0 N N ⟨b, off, none⟩ ups.length uc hd hs cur 4 hg ((ups.take N).map Value.bool) hl ?_ ?_ ?_ (h _ _ ?_ ?_)
    · intro j v hj
      rw [addr_add]
      rw [List.getElem?_map, List.getElem?_take] at hj
      split at hj
      · obtain ⟨y, hy, rfl⟩ := Option.map_eq_some_iff.1 hj
        obtain ⟨hjl, rfl⟩ := List.getElem?_eq_some_iff.1 hy
        rw [hc j (by rw [List.length_map]; exact hjl), List.getElem_map]
      · cases hj
    · rw [hl, hcs, Nat.zero_add]
      exact Nat.min_le_right _ _
    · intro v hv
      obtain ⟨y, _, rfl⟩ := List.mem_map.1 hv
      rfl
    · exact ⟨rfl, rfl, rfl, by simp [World.setRow], fun k hk hne => setRow_other w gu k _ (fun e => hne (by rw [e]))⟩
    · refine ⟨_, setRow_heap w gu _ _ 4 _ hg, ?_, fun i hi => ?_⟩
      · simp only [List.size_toArray, List.length_append, List.length_take, List.length_drop, Array.length_toList, hcs, hl]
        have : Nat.min ups.length N = min ups.length N := rfl
        omega
      · have hci := hcc i hi
        show _ = some (Value.bool (atN false ups (i : Int)))
        rw [hat]
        simp only [List.getElem?_toArray, List.take_zero, List.nil_append, Nat.zero_add]
        by_cases hiu : i < ups.length
        · rw [List.getElem?_append_left (by rw [hl]; have : Nat.min ups.length N = min ups.length N := rfl; omega), List.getElem?_map, List.getElem?_take, if_pos hi, List.getElem?_eq_getElem hiu]
          rfl
        · rw [List.getElem?_append_right (by rw [hl]; have : Nat.min ups.length N = min ups.length N := rfl; omega), List.getElem?_drop, hl, Array.getElem?_toList]
          have e : Nat.min ups.length N + (i - Nat.min ups.length N) = i := by have : Nat.min ups.length N = min ups.length N := rfl; omega
          rw [e, hci, List.getElem?_eq_none (by omega)]
          rfl
end Go.Av
