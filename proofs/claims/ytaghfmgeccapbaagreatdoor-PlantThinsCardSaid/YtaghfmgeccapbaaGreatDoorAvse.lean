/- The evaluator, in one text: over any program; no conditions but those that each law names. -/
import Derived.Test.YtaghfmgeccapbaaGreatDoorAvsd
import Derived.Test.YtaghfmgeccapbaaGreatDoorAvsc
import Derived.Test.YtaghfmgeccapbaaGreatDoorAvsb
set_option linter.unusedSimpArgs false
set_option linter.unusedVariables false
set_option linter.unusedSectionVars false
set_option maxRecDepth 100000
namespace Go.Av
open Go.Proofs
variable [Rk] {chk : List D → Bool}
def parQ (q : Int) (n : Nd) : Bool := n.p == q
theorem par1_L (n : Nd) (q : Int) : callL Tryz.prog (ext11b chk) 62 [n.d, .fix (.agg [.int .i64 q]) 0] [] = some (.bool (parQ q n), [.no], []) := by
  unfold parQ
  rw [ndat]
  generalize n.at_.map At.d = LA at *
  generalize n.st.map D.str = LS at *
  refine callK (m := 8) (res := [3]) (rs := [.tmp 3]) rfl Tryz.func62 rfl rfl rfl rfl rfl ?_
  repeat' (first
    | simp only [*, AVB, AVY, ↓reduceIte, Nat.reduceEqDiff, Nat.reduceLT, Nat.reduceLeDiff, reduceCtorEq, Nat.reduceBEq, String.reduceBEq, Nat.reduceAdd, Nat.reduceSub, Nat.reduceMul, Int.reduceLE, Int.reduceLT, Int.reduceToNat, Int.reduceBEq, Int.reduceBNe, List.zipWith, dIntBin]
    | (refine drW_intro (by kernel_rfl) ?_)
    | (refine gw_intro (fun h => ?_) (fun h => ?_) <;> (try simp only [AVH] at h)))
set_option maxHeartbeats 4000000 in
theorem idxd_L (l : List Nd) (q : Int) (hl : l.length ≤ 1000000) : callL Tryz.prog (ext11b chk) 79 [.list (l.map Nd.d), .func (.func 62) [] [.fix (.agg [.int .i64 q]) 0]] [] = some (.int .i64 (idxN (parQ q) 0 l), [.no], []) := by
  have lN := lenM l Nd.d
  refine callK (m := 19) (res := [4]) (rs := [.tmp 4]) rfl Tryz.func79 rfl rfl rfl rfl rfl ?_
  have HL := Hd.mk hl
  clear hl
  obtain ⟨R, hR⟩ : ∃ R, Hd (R = idxN (parQ q) 0 l) := ⟨_, rfl⟩
  rw [← (show R = idxN (parQ q) 0 l from hR)]
  repeat' (first
    | simp only [*, AVB, AVY, ↓reduceIte, Nat.reduceEqDiff, Nat.reduceLT, Nat.reduceLeDiff, reduceCtorEq, Nat.reduceBEq, String.reduceBEq, Nat.reduceAdd, Nat.reduceSub, Nat.reduceMul, Int.reduceLE, Int.reduceLT, Int.reduceToNat, Int.reduceBEq, Int.reduceBNe, List.zipWith, dIntBin]
    | (refine drW_intro (by kernel_rfl) ?_)
    | (refine gw_intro (fun h => ?_) (fun h => ?_) <;> (try simp only [AVH] at h)))
  refine loopH (fun st => ∃ i : Nat, i ≤ l.length ∧ st.slot 8 = .int .i64 i ∧ st.slot 7 = .int .i64 l.length ∧ st.slot 0 = .list (l.map Nd.d) ∧ st.slot 1 = .func (.func 62) [] [.fix (.agg [.int .i64 q]) 0] ∧ st.slot 4 = .int .i64 0 ∧ st.room 4 = [] ∧ Hd (R = idxN (parQ q) i (l.drop i))) (fun st => l.length - slotI st 8) ?_ ?_
  · refine ⟨0, Nat.zero_le _, ?_, ?_, ?_, ?_, ?_, ?_, hR⟩
    all_goals simp only [*, AVB, AVY, ↓reduceIte, Nat.reduceEqDiff, Nat.reduceLT, Nat.reduceLeDiff, reduceCtorEq, Nat.reduceBEq, String.reduceBEq, Nat.reduceAdd, Nat.reduceSub, Nat.reduceMul, Int.reduceLE, Int.reduceLT, Int.reduceToNat, Int.reduceBEq, Int.reduceBNe, List.zipWith, dIntBin]
    all_goals rfl
  · rintro st K ⟨i, hi, g0, g1, g2, g3, g4, g5, hO⟩ hn hx hr
    have hl : l.length ≤ 1000000 := HL
    have hO' : R = idxN (parQ q) i (l.drop i) := hO
    by_cases h : i < l.length
    · have g9 : (i : Int) < l.length := by omega
      have hw := wrapS i (by omega)
      obtain ⟨x, hx1⟩ := some_at h
      rw [idxN_at _ hx1] at hO'
      have ha := getD_map (f := Nd.d) hx1
      rw [ndat] at ha
      have hc := par1_L (chk := chk) x q
      rw [ndat] at hc
      cases he : parQ q x with
      | true =>
        rw [he] at hO' hc
        rw [if_pos rfl] at hO'
        subst hO'
        clear hO hn hx hl hx1 hR
        generalize x.at_.map At.d = LA at *
        generalize x.st.map D.str = LS at *
        repeat' (first
    | simp only [*, AVB, AVY, ↓reduceIte, Nat.reduceEqDiff, Nat.reduceLT, Nat.reduceLeDiff, reduceCtorEq, Nat.reduceBEq, String.reduceBEq, Nat.reduceAdd, Nat.reduceSub, Nat.reduceMul, Int.reduceLE, Int.reduceLT, Int.reduceToNat, Int.reduceBEq, Int.reduceBNe, List.zipWith, dIntBin]
    | (refine drW_intro (by kernel_rfl) ?_)
    | (refine gw_intro (fun h => ?_) (fun h => ?_) <;> (try simp only [AVH] at h)))
        refine hr _ ?_
        repeat' (first
    | simp only [*, AVB, AVY, ↓reduceIte, Nat.reduceEqDiff, Nat.reduceLT, Nat.reduceLeDiff, reduceCtorEq, Nat.reduceBEq, String.reduceBEq, Nat.reduceAdd, Nat.reduceSub, Nat.reduceMul, Int.reduceLE, Int.reduceLT, Int.reduceToNat, Int.reduceBEq, Int.reduceBNe, List.zipWith, dIntBin]
    | (refine drW_intro (by kernel_rfl) ?_)
    | (refine gw_intro (fun h => ?_) (fun h => ?_) <;> (try simp only [AVH] at h)))
      | false =>
        rw [he] at hO' hc
        rw [if_neg (by decide)] at hO'
        have HO := Hd.mk hO'
        clear hO hO' hx hr hl hx1
        generalize x.at_.map At.d = LA at *
        generalize x.st.map D.str = LS at *
        repeat' (first
    | simp only [*, AVB, AVY, ↓reduceIte, Nat.reduceEqDiff, Nat.reduceLT, Nat.reduceLeDiff, reduceCtorEq, Nat.reduceBEq, String.reduceBEq, Nat.reduceAdd, Nat.reduceSub, Nat.reduceMul, Int.reduceLE, Int.reduceLT, Int.reduceToNat, Int.reduceBEq, Int.reduceBNe, List.zipWith, dIntBin]
    | (refine drW_intro (by kernel_rfl) ?_)
    | (refine gw_intro (fun h => ?_) (fun h => ?_) <;> (try simp only [AVH] at h)))
        refine hn _ ⟨i + 1, h, ?_, ?_, ?_, ?_, ?_, ?_, HO⟩ ?_
        · simp only [*, AVL, ↓reduceIte, Nat.reduceEqDiff, Nat.reduceLT, Nat.reduceLeDiff, reduceCtorEq]
        · simp only [*, AVL, ↓reduceIte, Nat.reduceEqDiff, Nat.reduceLT, Nat.reduceLeDiff, reduceCtorEq]
        · simp only [*, AVL, ↓reduceIte, Nat.reduceEqDiff, Nat.reduceLT, Nat.reduceLeDiff, reduceCtorEq]
        · simp only [*, AVL, ↓reduceIte, Nat.reduceEqDiff, Nat.reduceLT, Nat.reduceLeDiff, reduceCtorEq]
        · simp only [*, AVL, ↓reduceIte, Nat.reduceEqDiff, Nat.reduceLT, Nat.reduceLeDiff, reduceCtorEq]
        · simp only [*, AVL, ↓reduceIte, Nat.reduceEqDiff, Nat.reduceLT, Nat.reduceLeDiff, reduceCtorEq]
        · simp only [slotI, *, AVB, AVY, ↓reduceIte, Nat.reduceEqDiff, Nat.reduceLT, Nat.reduceLeDiff, reduceCtorEq, Nat.reduceBEq, String.reduceBEq, Nat.reduceAdd, Nat.reduceSub, Nat.reduceMul, Int.reduceLE, Int.reduceLT, Int.reduceToNat, Int.reduceBEq, Int.reduceBNe, List.zipWith, dIntBin]
          omega
    · have g9 : ¬ (i : Int) < l.length := by omega
      rw [idxN_end _ (by omega)] at hO'
      subst hO'
      clear hO hn hr hl hR
      repeat' (first
    | simp only [*, AVB, AVY, ↓reduceIte, Nat.reduceEqDiff, Nat.reduceLT, Nat.reduceLeDiff, reduceCtorEq, Nat.reduceBEq, String.reduceBEq, Nat.reduceAdd, Nat.reduceSub, Nat.reduceMul, Int.reduceLE, Int.reduceLT, Int.reduceToNat, Int.reduceBEq, Int.reduceBNe, List.zipWith, dIntBin]
    | (refine drW_intro (by kernel_rfl) ?_)
    | (refine gw_intro (fun h => ?_) (fun h => ?_) <;> (try simp only [AVH] at h)))
      refine hx _ _ ?_
      repeat' (first
    | simp only [*, AVB, AVY, ↓reduceIte, Nat.reduceEqDiff, Nat.reduceLT, Nat.reduceLeDiff, reduceCtorEq, Nat.reduceBEq, String.reduceBEq, Nat.reduceAdd, Nat.reduceSub, Nat.reduceMul, Int.reduceLE, Int.reduceLT, Int.reduceToNat, Int.reduceBEq, Int.reduceBNe, List.zipWith, dIntBin]
    | (refine drW_intro (by kernel_rfl) ?_)
    | (refine gw_intro (fun h => ?_) (fun h => ?_) <;> (try simp only [AVH] at h)))
theorem hasc_L (l : List Nd) (q : Int) (hl : l.length ≤ 1000000) : callL Tryz.prog (ext11b chk) 61 [.list (l.map Nd.d), .func (.func 62) [] [.fix (.agg [.int .i64 q]) 0]] [] = some (.bool (l.any (parQ q)), [.no], []) := by
  have h := idxd_L (chk := chk) l q hl
  rw [← idxN_ge (parQ q) l 0]
  clear hl
  generalize idxN (parQ q) 0 l = R at *
  generalize l.map Nd.d = L at *
  refine callK (m := 9) (res := [4]) (rs := [.tmp 4]) rfl Tryz.func61 rfl rfl rfl rfl rfl ?_
  repeat' (first
    | simp only [*, AVB, AVY, ↓reduceIte, Nat.reduceEqDiff, Nat.reduceLT, Nat.reduceLeDiff, reduceCtorEq, Nat.reduceBEq, String.reduceBEq, Nat.reduceAdd, Nat.reduceSub, Nat.reduceMul, Int.reduceLE, Int.reduceLT, Int.reduceToNat, Int.reduceBEq, Int.reduceBNe, List.zipWith, dIntBin]
    | (refine drW_intro (by kernel_rfl) ?_)
    | (refine gw_intro (fun h => ?_) (fun h => ?_) <;> (try simp only [AVH] at h)))
def mayF (ns : List Nd) (i : Nat) : Bool := !(ns.any (parQ i)) && !(kAt ns i == 1 && decide (pAt ns i < 0))
theorem drop_L (ns : List Nd) (i : Nat) (hi : i < ns.length) (hl : ns.length ≤ 10000) : callL Tryz.prog (ext11b chk) 40 [.list (ns.map Nd.d), .int .i64 (i : Int)] [] = some (.bool (mayF ns i), [.no], []) := by
  have h := hasc_L (chk := chk) ns i (by omega)
  have lN := lenM ns Nd.d
  obtain ⟨n, hn⟩ := some_at hi
  have hb := getD_map (f := Nd.d) hn
  rw [ndat] at hb
  have g9 : (i : Int) < ns.length := by omega
  unfold mayF
  have hk : kAt ns i = n.k := by unfold kAt; rw [hn]
  have hp : pAt ns i = n.p := by unfold pAt; rw [hn]
  rw [hk, hp]
  generalize ns.any (parQ i) = R at *
  clear hn hk hp hi
  generalize n.at_.map At.d = LA at *
  generalize n.st.map D.str = LS at *
  generalize ns.map Nd.d = NS at *
  by_cases c1 : n.k = 1
  · have b1 : (n.k == 1) = true := by simpa using c1
    by_cases c2 : n.p < 0
    · rw [b1, decide_eq_true c2]
      clear c1
      cases R
      · refine callK (m := 23) (res := [4]) (rs := [.tmp 4]) rfl Tryz.func40 rfl rfl rfl rfl rfl ?_
        repeat' (first
    | simp only [*, AVB, AVY, ↓reduceIte, Nat.reduceEqDiff, Nat.reduceLT, Nat.reduceLeDiff, reduceCtorEq, Nat.reduceBEq, String.reduceBEq, Nat.reduceAdd, Nat.reduceSub, Nat.reduceMul, Int.reduceLE, Int.reduceLT, Int.reduceToNat, Int.reduceBEq, Int.reduceBNe, List.zipWith, dIntBin]
    | (refine drW_intro (by kernel_rfl) ?_)
    | (refine gw_intro (fun h => ?_) (fun h => ?_) <;> (try simp only [AVH] at h)))
      · refine callK (m := 23) (res := [4]) (rs := [.tmp 4]) rfl Tryz.func40 rfl rfl rfl rfl rfl ?_
        repeat' (first
    | simp only [*, AVB, AVY, ↓reduceIte, Nat.reduceEqDiff, Nat.reduceLT, Nat.reduceLeDiff, reduceCtorEq, Nat.reduceBEq, String.reduceBEq, Nat.reduceAdd, Nat.reduceSub, Nat.reduceMul, Int.reduceLE, Int.reduceLT, Int.reduceToNat, Int.reduceBEq, Int.reduceBNe, List.zipWith, dIntBin]
    | (refine drW_intro (by kernel_rfl) ?_)
    | (refine gw_intro (fun h => ?_) (fun h => ?_) <;> (try simp only [AVH] at h)))
    · rw [b1, decide_eq_false c2]
      clear c1
      cases R
      · refine callK (m := 23) (res := [4]) (rs := [.tmp 4]) rfl Tryz.func40 rfl rfl rfl rfl rfl ?_
        repeat' (first
    | simp only [*, upd, AVB, AVY, ↓reduceIte, Nat.reduceEqDiff, Nat.reduceLT, Nat.reduceLeDiff, reduceCtorEq, Nat.reduceBEq, String.reduceBEq, Nat.reduceAdd, Nat.reduceSub, Nat.reduceMul, Int.reduceLE, Int.reduceLT, Int.reduceToNat, Int.reduceBEq, Int.reduceBNe, List.zipWith, dIntBin]
    | (refine drW_intro (by kernel_rfl) ?_)
    | (refine gw_intro (fun h => ?_) (fun h => ?_) <;> (try simp only [AVH] at h)))
      · refine callK (m := 23) (res := [4]) (rs := [.tmp 4]) rfl Tryz.func40 rfl rfl rfl rfl rfl ?_
        repeat' (first
    | simp only [*, upd, AVB, AVY, ↓reduceIte, Nat.reduceEqDiff, Nat.reduceLT, Nat.reduceLeDiff, reduceCtorEq, Nat.reduceBEq, String.reduceBEq, Nat.reduceAdd, Nat.reduceSub, Nat.reduceMul, Int.reduceLE, Int.reduceLT, Int.reduceToNat, Int.reduceBEq, Int.reduceBNe, List.zipWith, dIntBin]
    | (refine drW_intro (by kernel_rfl) ?_)
    | (refine gw_intro (fun h => ?_) (fun h => ?_) <;> (try simp only [AVH] at h)))
  · have b1 : (n.k == 1) = false := by simpa using c1
    rw [b1]
    clear c1
    cases R
    · refine callK (m := 23) (res := [4]) (rs := [.tmp 4]) rfl Tryz.func40 rfl rfl rfl rfl rfl ?_
      repeat' (first
    | simp only [*, upd, AVB, AVY, ↓reduceIte, Nat.reduceEqDiff, Nat.reduceLT, Nat.reduceLeDiff, reduceCtorEq, Nat.reduceBEq, String.reduceBEq, Nat.reduceAdd, Nat.reduceSub, Nat.reduceMul, Int.reduceLE, Int.reduceLT, Int.reduceToNat, Int.reduceBEq, Int.reduceBNe, List.zipWith, dIntBin]
    | (refine drW_intro (by kernel_rfl) ?_)
    | (refine gw_intro (fun h => ?_) (fun h => ?_) <;> (try simp only [AVH] at h)))
    · refine callK (m := 23) (res := [4]) (rs := [.tmp 4]) rfl Tryz.func40 rfl rfl rfl rfl rfl ?_
      repeat' (first
    | simp only [*, upd, AVB, AVY, ↓reduceIte, Nat.reduceEqDiff, Nat.reduceLT, Nat.reduceLeDiff, reduceCtorEq, Nat.reduceBEq, String.reduceBEq, Nat.reduceAdd, Nat.reduceSub, Nat.reduceMul, Int.reduceLE, Int.reduceLT, Int.reduceToNat, Int.reduceBEq, Int.reduceBNe, List.zipWith, dIntBin]
    | (refine drW_intro (by kernel_rfl) ?_)
    | (refine gw_intro (fun h => ?_) (fun h => ?_) <;> (try simp only [AVH] at h)))
set_option maxHeartbeats 8000000 in
theorem may_L (ns : List Nd) (i : Nat) (hi : i < ns.length) (hl : ns.length ≤ 10000) : callL Tryz.prog (ext11b chk) 29 [.list (ns.map Nd.d), .int .i64 (i : Int)] [] = some (.bool (mayF ns i), [.no], []) := by
  have lN := lenM ns Nd.d
  obtain ⟨n, hn0⟩ := some_at hi
  have hb0 := getD_map (f := Nd.d) hn0
  rw [ndat] at hb0
  have g90 : (i : Int) < ns.length := by omega
  have hk : kAt ns i = n.k := by unfold kAt; rw [hn0]
  have hp : pAt ns i = n.p := by unfold pAt; rw [hn0]
  obtain ⟨R, hR⟩ : ∃ R, Hd (R = ns.any (parQ i)) := ⟨_, rfl⟩
  have hm : mayF ns i = (!R && !(n.k == 1 && decide (n.p < 0))) := by
    unfold mayF
    rw [hk, hp, show R = ns.any (parQ i) from hR]
  rw [hm]
  have HL := Hd.mk hl
  clear hk hp hm hl hi hn0
  refine callK (m := 33) (res := [4]) (rs := [.tmp 4]) rfl Tryz.func29 rfl rfl rfl rfl rfl ?_
  repeat' (first
    | simp only [*, AVB, AVY, ↓reduceIte, Nat.reduceEqDiff, Nat.reduceLT, Nat.reduceLeDiff, reduceCtorEq, Nat.reduceBEq, String.reduceBEq, Nat.reduceAdd, Nat.reduceSub, Nat.reduceMul, Int.reduceLE, Int.reduceLT, Int.reduceToNat, Int.reduceBEq, Int.reduceBNe, List.zipWith, dIntBin]
    | (refine drW_intro (by kernel_rfl) ?_)
    | (refine gw_intro (fun h => ?_) (fun h => ?_) <;> (try simp only [AVH] at h)))
  refine loopH (fun st => ∃ j : Nat, j ≤ ns.length ∧ st.slot 5 = .int .i64 j ∧ st.slot 0 = .list (ns.map Nd.d) ∧ st.slot 1 = .int .i64 i ∧ Hd (R = (ns.drop j).any (parQ i))) (fun st => ns.length - slotI st 5) ?_ ?_
  · refine ⟨0, Nat.zero_le _, ?_, ?_, ?_, hR⟩
    all_goals simp only [*, AVB, AVY, ↓reduceIte, Nat.reduceEqDiff, Nat.reduceLT, Nat.reduceLeDiff, reduceCtorEq, Nat.reduceBEq, String.reduceBEq, Nat.reduceAdd, Nat.reduceSub, Nat.reduceMul, Int.reduceLE, Int.reduceLT, Int.reduceToNat, Int.reduceBEq, Int.reduceBNe, List.zipWith, dIntBin]
    all_goals rfl
  · rintro st K ⟨j, hj, g5, g0, g1, hO⟩ hn hx hr
    have hl : ns.length ≤ 10000 := HL
    have hO' : R = (ns.drop j).any (parQ i) := hO
    by_cases h : j < ns.length
    · have g9 : (j : Int) < ns.length := by omega
      have hw := wrapS j (by omega)
      obtain ⟨x, hx1⟩ := some_at h
      rw [any_drop _ hx1] at hO'
      have ha := getD_map (f := Nd.d) hx1
      rw [ndat] at ha
      unfold parQ at hO'
      have HI := Hd.mk h
      clear hx1 hl h hb0 g90 hO hx
      generalize x.at_.map At.d = XA at *
      generalize x.st.map D.str = XS at *
      cases hq : (x.p == (i : Int)) with
      | true =>
        rw [hq, Bool.true_or] at hO'
        subst hO'
        clear hn hR
        repeat' (first
    | simp only [*, AVB, AVY, ↓reduceIte, Nat.reduceEqDiff, Nat.reduceLT, Nat.reduceLeDiff, reduceCtorEq, Nat.reduceBEq, String.reduceBEq, Nat.reduceAdd, Nat.reduceSub, Nat.reduceMul, Int.reduceLE, Int.reduceLT, Int.reduceToNat, Int.reduceBEq, Int.reduceBNe, List.zipWith, dIntBin]
    | (refine drW_intro (by kernel_rfl) ?_)
    | (refine gw_intro (fun h => ?_) (fun h => ?_) <;> (try simp only [AVH] at h)))
        refine hr _ ?_
        repeat' (first
    | simp only [*, AVB, AVY, ↓reduceIte, Nat.reduceEqDiff, Nat.reduceLT, Nat.reduceLeDiff, reduceCtorEq, Nat.reduceBEq, String.reduceBEq, Nat.reduceAdd, Nat.reduceSub, Nat.reduceMul, Int.reduceLE, Int.reduceLT, Int.reduceToNat, Int.reduceBEq, Int.reduceBNe, List.zipWith, dIntBin]
    | (refine drW_intro (by kernel_rfl) ?_)
    | (refine gw_intro (fun h => ?_) (fun h => ?_) <;> (try simp only [AVH] at h)))
      | false =>
        rw [hq, Bool.false_or] at hO'
        have HO2 : Hd (R = (ns.drop (j + 1)).any (parQ i)) := hO'
        clear hO'
        repeat' (first
    | simp only [*, AVB, AVY, ↓reduceIte, Nat.reduceEqDiff, Nat.reduceLT, Nat.reduceLeDiff, reduceCtorEq, Nat.reduceBEq, String.reduceBEq, Nat.reduceAdd, Nat.reduceSub, Nat.reduceMul, Int.reduceLE, Int.reduceLT, Int.reduceToNat, Int.reduceBEq, Int.reduceBNe, List.zipWith, dIntBin]
    | (refine drW_intro (by kernel_rfl) ?_)
    | (refine gw_intro (fun h => ?_) (fun h => ?_) <;> (try simp only [AVH] at h)))
        have hi2 : j < ns.length := HI
        refine hn _ ⟨j + 1, hi2, ?_, ?_, ?_, HO2⟩ ?_
        · simp only [*, AVL, ↓reduceIte, Nat.reduceEqDiff, Nat.reduceLT, Nat.reduceLeDiff, reduceCtorEq]
        · simp only [*, AVL, ↓reduceIte, Nat.reduceEqDiff, Nat.reduceLT, Nat.reduceLeDiff, reduceCtorEq]
        · simp only [*, AVL, ↓reduceIte, Nat.reduceEqDiff, Nat.reduceLT, Nat.reduceLeDiff, reduceCtorEq]
        · simp only [slotI, *, AVB, AVY, ↓reduceIte, Nat.reduceEqDiff, Nat.reduceLT, Nat.reduceLeDiff, reduceCtorEq, Nat.reduceBEq, String.reduceBEq, Nat.reduceAdd, Nat.reduceSub, Nat.reduceMul, Int.reduceLE, Int.reduceLT, Int.reduceToNat, Int.reduceBEq, Int.reduceBNe, List.zipWith, dIntBin]
          omega
    · have g9 : ¬ (j : Int) < ns.length := by omega
      rw [any_end _ (by omega)] at hO'
      subst hO'
      clear hn hr hO h hl hR
      generalize n.at_.map At.d = LA at *
      generalize n.st.map D.str = LS at *
      by_cases c1 : n.k = 1
      · have b1 : (n.k == 1) = true := by simpa using c1
        have b2 : (n.k != 1) = false := by simpa using c1
        by_cases c2 : n.p < 0
        · have c3 : ¬ 0 ≤ n.p := by omega
          have d2 : decide (n.p < 0) = true := decide_eq_true c2
          clear c1
          repeat' (first
    | simp only [*, AVB, AVY, ↓reduceIte, Nat.reduceEqDiff, Nat.reduceLT, Nat.reduceLeDiff, reduceCtorEq, Nat.reduceBEq, String.reduceBEq, Nat.reduceAdd, Nat.reduceSub, Nat.reduceMul, Int.reduceLE, Int.reduceLT, Int.reduceToNat, Int.reduceBEq, Int.reduceBNe, List.zipWith, dIntBin]
    | (refine drW_intro (by kernel_rfl) ?_)
    | (refine gw_intro (fun h => ?_) (fun h => ?_) <;> (try simp only [AVH] at h)))
          refine hx _ _ ?_
          repeat' (first
    | simp only [*, AVB, AVY, ↓reduceIte, Nat.reduceEqDiff, Nat.reduceLT, Nat.reduceLeDiff, reduceCtorEq, Nat.reduceBEq, String.reduceBEq, Nat.reduceAdd, Nat.reduceSub, Nat.reduceMul, Int.reduceLE, Int.reduceLT, Int.reduceToNat, Int.reduceBEq, Int.reduceBNe, List.zipWith, dIntBin]
    | (refine drW_intro (by kernel_rfl) ?_)
    | (refine gw_intro (fun h => ?_) (fun h => ?_) <;> (try simp only [AVH] at h)))
        · have c3 : 0 ≤ n.p := by omega
          have d2 : decide (n.p < 0) = false := decide_eq_false c2
          clear c1
          repeat' (first
    | simp only [*, AVB, AVY, ↓reduceIte, Nat.reduceEqDiff, Nat.reduceLT, Nat.reduceLeDiff, reduceCtorEq, Nat.reduceBEq, String.reduceBEq, Nat.reduceAdd, Nat.reduceSub, Nat.reduceMul, Int.reduceLE, Int.reduceLT, Int.reduceToNat, Int.reduceBEq, Int.reduceBNe, List.zipWith, dIntBin]
    | (refine drW_intro (by kernel_rfl) ?_)
    | (refine gw_intro (fun h => ?_) (fun h => ?_) <;> (try simp only [AVH] at h)))
          refine hx _ _ ?_
          repeat' (first
    | simp only [*, AVB, AVY, ↓reduceIte, Nat.reduceEqDiff, Nat.reduceLT, Nat.reduceLeDiff, reduceCtorEq, Nat.reduceBEq, String.reduceBEq, Nat.reduceAdd, Nat.reduceSub, Nat.reduceMul, Int.reduceLE, Int.reduceLT, Int.reduceToNat, Int.reduceBEq, Int.reduceBNe, List.zipWith, dIntBin]
    | (refine drW_intro (by kernel_rfl) ?_)
    | (refine gw_intro (fun h => ?_) (fun h => ?_) <;> (try simp only [AVH] at h)))
      · have b1 : (n.k == 1) = false := by simpa using c1
        have b2 : (n.k != 1) = true := by simpa using c1
        clear c1
        repeat' (first
    | simp only [*, AVB, AVY, ↓reduceIte, Nat.reduceEqDiff, Nat.reduceLT, Nat.reduceLeDiff, reduceCtorEq, Nat.reduceBEq, String.reduceBEq, Nat.reduceAdd, Nat.reduceSub, Nat.reduceMul, Int.reduceLE, Int.reduceLT, Int.reduceToNat, Int.reduceBEq, Int.reduceBNe, List.zipWith, dIntBin]
    | (refine drW_intro (by kernel_rfl) ?_)
    | (refine gw_intro (fun h => ?_) (fun h => ?_) <;> (try simp only [AVH] at h)))
        refine hx _ _ ?_
        repeat' (first
    | simp only [*, AVB, AVY, ↓reduceIte, Nat.reduceEqDiff, Nat.reduceLT, Nat.reduceLeDiff, reduceCtorEq, Nat.reduceBEq, String.reduceBEq, Nat.reduceAdd, Nat.reduceSub, Nat.reduceMul, Int.reduceLE, Int.reduceLT, Int.reduceToNat, Int.reduceBEq, Int.reduceBNe, List.zipWith, dIntBin]
    | (refine drW_intro (by kernel_rfl) ?_)
    | (refine gw_intro (fun h => ?_) (fun h => ?_) <;> (try simp only [AVH] at h)))
def movF (o n : Int) : Int := if n < o then o - 1 else o
theorem moved_L (o n : Int) (h0 : 0 ≤ o) (h1 : o ≤ 1000000) : callL Tryz.prog (ext11b chk) 43 [.int .i64 o, .int .i64 n] [] = some (.int .i64 (movF o n), [.no], []) := by
  have hw : IntKind.i64.wrap (o - 1) = o - 1 := by rw [wrap64 _ (by omega) (by omega)]
  unfold movF
  clear h0 h1
  by_cases c : n < o
  · rw [if_pos c]
    refine callK (m := 11) (res := [4]) (rs := [.tmp 4]) rfl Tryz.func43 rfl rfl rfl rfl rfl ?_
    repeat' (first
    | simp only [*, AVB, AVY, ↓reduceIte, Nat.reduceEqDiff, Nat.reduceLT, Nat.reduceLeDiff, reduceCtorEq, Nat.reduceBEq, String.reduceBEq, Nat.reduceAdd, Nat.reduceSub, Nat.reduceMul, Int.reduceLE, Int.reduceLT, Int.reduceToNat, Int.reduceBEq, Int.reduceBNe, List.zipWith, dIntBin]
    | (refine drW_intro (by kernel_rfl) ?_)
    | (refine gw_intro (fun h => ?_) (fun h => ?_) <;> (try simp only [AVH] at h)))
  · rw [if_neg c]
    refine callK (m := 11) (res := [4]) (rs := [.tmp 4]) rfl Tryz.func43 rfl rfl rfl rfl rfl ?_
    repeat' (first
    | simp only [*, AVB, AVY, ↓reduceIte, Nat.reduceEqDiff, Nat.reduceLT, Nat.reduceLeDiff, reduceCtorEq, Nat.reduceBEq, String.reduceBEq, Nat.reduceAdd, Nat.reduceSub, Nat.reduceMul, Int.reduceLE, Int.reduceLT, Int.reduceToNat, Int.reduceBEq, Int.reduceBNe, List.zipWith, dIntBin]
    | (refine drW_intro (by kernel_rfl) ?_)
    | (refine gw_intro (fun h => ?_) (fun h => ?_) <;> (try simp only [AVH] at h)))
def lowNd (q : Int) (n : Nd) : Nd := n.at' (lowP q n.p)
def withoutN (ns : List Nd) (i : Nat) : List Nd := (ns.eraseIdx i).map (lowNd i)
theorem withoutN_d (ns : List Nd) (i : Nat) : (withoutN ns i).map Nd.d = withoutF (ns.map Nd.d) i := by
  unfold withoutN withoutF
  rw [List.map_map]
  have h : ∀ (l : List Nd) (k : Nat), (l.map Nd.d).eraseIdx k = (l.eraseIdx k).map Nd.d := by
    intro l
    induction l with
    | nil => intro k; rfl
    | cons x r ih =>
      intro k
      cases k with
      | zero => rfl
      | succ k => simp [List.eraseIdx_cons_succ, ih]
  rw [h, List.map_map]
  rfl
def wtT (ns : List Nd) (q : Nat) : Nat → List Nd
  | 0 => []
  | i + 1 => if i = q then wtT ns q i else (match ns[i]? with | some n => wtT ns q i ++ [lowNd q n] | none => wtT ns q i)
end Go.Av
namespace Go.Av
open Go.Proofs
variable [Rk] {chk : List D → Bool}
theorem erase_snoc {α : Type} (l : List α) (x : α) (q : Nat) : (l ++ [x]).eraseIdx q = if q < l.length then l.eraseIdx q ++ [x] else if q = l.length then l else l ++ [x] := by
  induction l generalizing q with
  | nil =>
    cases q with
    | zero => rfl
    | succ q => simp
  | cons y r ih =>
    cases q with
    | zero => simp
    | succ q =>
      rw [List.cons_append, List.eraseIdx_cons_succ, ih q]
      simp only [List.length_cons, Nat.add_lt_add_iff_right, Nat.add_right_cancel_iff]
      split
      · rfl
      · split <;> rfl
theorem erase_big {α : Type} (l : List α) (q : Nat) (h : l.length ≤ q) : l.eraseIdx q = l := List.eraseIdx_of_length_le h
theorem wtT_is {ns : List Nd} {q : Nat} : ∀ {i : Nat}, i ≤ ns.length → wtT ns q i = ((ns.take i).eraseIdx q).map (lowNd q)
  | 0, _ => by simp [wtT]
  | i + 1, h => by
    obtain ⟨n, hn⟩ := some_at (show i < ns.length by omega)
    have ih := wtT_is (ns := ns) (q := q) (i := i) (by omega)
    have hl : (ns.take i).length = i := by rw [List.length_take]; omega
    have ht : ns.take (i + 1) = ns.take i ++ [n] := by rw [List.take_add_one, hn]; rfl
    rw [wtT, hn, ht, erase_snoc, hl, ih]
    by_cases c : i = q
    · subst c
      rw [if_pos rfl, if_neg (by omega), if_pos rfl, erase_big _ _ (by omega)]
    · rw [if_neg c]
      by_cases c2 : q < i
      · rw [if_pos c2, List.map_append]
        rfl
      · rw [if_neg c2, if_neg (fun e => c e.symm), List.map_append, erase_big _ _ (by omega)]
        rfl
theorem wtT_end (ns : List Nd) (q : Nat) : wtT ns q ns.length = withoutN ns q := by
  rw [wtT_is (Nat.le_refl _), List.take_length]
  rfl
theorem wtT_len {ns : List Nd} {q : Nat} : ∀ i, (wtT ns q i).length ≤ i
  | 0 => Nat.le_refl _
  | i + 1 => by
    have := wtT_len (ns := ns) (q := q) i
    rw [wtT]
    split
    · omega
    · split
      · rw [List.length_append]
        simp
        omega
      · omega
set_option maxHeartbeats 16000000 in
theorem rwith_L (ns : List Nd) (q : Nat) (hl : ns.length ≤ 10000) (hp : ∀ n ∈ ns, n.p ≤ 1000000) : callL Tryz.prog (ext11b chk) 30 [.list (ns.map Nd.d), .int .i64 (q : Int)] [] = some (.list ((withoutN ns q).map Nd.d), [roomN (withoutN ns q)], []) := by
  have lN := lenM ns Nd.d
  rw [← wtT_end]
  have HL := Hd.mk hl
  have HP := Hd.mk hp
  clear hl hp
  refine callK (m := 35) (res := [4]) (rs := [.tmp 4]) rfl Tryz.func30 rfl rfl rfl rfl rfl ?_
  repeat' (first
    | simp only [*, AVB, AVY, ↓reduceIte, Nat.reduceEqDiff, Nat.reduceLT, Nat.reduceLeDiff, reduceCtorEq, Nat.reduceBEq, String.reduceBEq, Nat.reduceAdd, Nat.reduceSub, Nat.reduceMul, Int.reduceLE, Int.reduceLT, Int.reduceToNat, Int.reduceBEq, Int.reduceBNe, List.zipWith, dIntBin]
    | (refine drW_intro (by kernel_rfl) ?_)
    | (refine gw_intro (fun h => ?_) (fun h => ?_) <;> (try simp only [AVH] at h)))
  refine loopH (fun st => ∃ i : Nat, i ≤ ns.length ∧ st.slot 6 = .int .i64 i ∧ st.slot 0 = .list (ns.map Nd.d) ∧ st.slot 1 = .int .i64 q ∧ st.slot 5 = .list ((wtT ns q i).map Nd.d) ∧ st.room 5 = [roomN (wtT ns q i)]) (fun st => ns.length - slotI st 6) ?_ ?_
  · refine ⟨0, Nat.zero_le _, ?_, ?_, ?_, ?_, ?_⟩
    all_goals simp only [*, AVB, AVY, ↓reduceIte, Nat.reduceEqDiff, Nat.reduceLT, Nat.reduceLeDiff, reduceCtorEq, Nat.reduceBEq, String.reduceBEq, Nat.reduceAdd, Nat.reduceSub, Nat.reduceMul, Int.reduceLE, Int.reduceLT, Int.reduceToNat, Int.reduceBEq, Int.reduceBNe, List.zipWith, dIntBin]
    all_goals rfl
  · rintro st K ⟨i, hi, g6, g0, g1, g5, r5⟩ hn hx hr
    have hl : ns.length ≤ 10000 := HL
    by_cases h : i < ns.length
    · have g9 : (i : Int) < ns.length := by omega
      have hw := wrapS i (by omega)
      obtain ⟨n, hm⟩ := some_at h
      have hb := getD_map (f := Nd.d) hm
      rw [ndat] at hb
      have hpn : n.p ≤ 1000000 := (show ∀ n ∈ ns, n.p ≤ 1000000 from HP) n (List.mem_of_getElem? hm)
      have hre : wtT ns q (i + 1) = if i = q then wtT ns q i else wtT ns q i ++ [lowNd q n] := by rw [wtT, hm]
      have hAl := wtT_len (ns := ns) (q := q) i
      obtain ⟨A, hA⟩ : ∃ A, A = wtT ns q i := ⟨_, rfl⟩
      rw [← hA] at hre hAl g5 r5
      have hro := roomN_ok A
      have hsz := szN A
      have hl1 : (A.map Nd.d).length + 1 ≤ 1073741824 := by rw [List.length_map]; omega
      have hl2 : (A.map Nd.d).length ≤ 1073741823 := by rw [List.length_map]; omega
      obtain ⟨Q, hQ⟩ : ∃ Q, wtT ns q (i + 1) = Q := ⟨_, rfl⟩
      have HQ := Hd.mk hQ
      rw [hQ] at hre
      have HI := Hd.mk h
      clear hQ hA hr hx hi
      by_cases cq : i = q
      · subst cq
        rw [if_pos rfl] at hre
        subst hre
        have b1 : ((i : Int) != (i : Int)) = false := by simp
        by_cases cp : (i : Int) < n.p
        · have hwp : IntKind.i64.wrap (n.p - 1) = n.p - 1 := by rw [wrap64 _ (by omega) (by omega)]
          clear hm hpn hl h hAl hro hsz hl1 hl2
          generalize n.at_.map At.d = LA at *
          generalize n.st.map D.str = LS at *
          repeat' (first
    | simp only [*, AVB, AVY, ↓reduceIte, Nat.reduceEqDiff, Nat.reduceLT, Nat.reduceLeDiff, reduceCtorEq, Nat.reduceBEq, String.reduceBEq, Nat.reduceAdd, Nat.reduceSub, Nat.reduceMul, Int.reduceLE, Int.reduceLT, Int.reduceToNat, Int.reduceBEq, Int.reduceBNe, List.zipWith, dIntBin]
    | (refine drW_intro (by kernel_rfl) ?_)
    | (refine gw_intro (fun h => ?_) (fun h => ?_) <;> (try simp only [AVH] at h)))
          have hi2 : i < ns.length := HI
          refine hn _ ⟨i + 1, hi2, ?_, ?_, ?_, ?_, ?_⟩ ?_
          · simp only [*, AVL, ↓reduceIte, Nat.reduceEqDiff, Nat.reduceLT, Nat.reduceLeDiff, reduceCtorEq]
          · simp only [*, AVL, ↓reduceIte, Nat.reduceEqDiff, Nat.reduceLT, Nat.reduceLeDiff, reduceCtorEq]
          · simp only [*, AVL, ↓reduceIte, Nat.reduceEqDiff, Nat.reduceLT, Nat.reduceLeDiff, reduceCtorEq]
          · rw [show wtT ns i (i + 1) = Q from HQ]
            simp only [*, AVB, AVY, ↓reduceIte, Nat.reduceEqDiff, Nat.reduceLT, Nat.reduceLeDiff, reduceCtorEq, Nat.reduceBEq, String.reduceBEq, Nat.reduceAdd, Nat.reduceSub, Nat.reduceMul, Int.reduceLE, Int.reduceLT, Int.reduceToNat, Int.reduceBEq, Int.reduceBNe, List.zipWith, dIntBin]
          · rw [show wtT ns i (i + 1) = Q from HQ]
            simp only [*, AVB, AVY, ↓reduceIte, Nat.reduceEqDiff, Nat.reduceLT, Nat.reduceLeDiff, reduceCtorEq, Nat.reduceBEq, String.reduceBEq, Nat.reduceAdd, Nat.reduceSub, Nat.reduceMul, Int.reduceLE, Int.reduceLT, Int.reduceToNat, Int.reduceBEq, Int.reduceBNe, List.zipWith, dIntBin]
          · simp only [slotI, *, AVB, AVY, ↓reduceIte, Nat.reduceEqDiff, Nat.reduceLT, Nat.reduceLeDiff, reduceCtorEq, Nat.reduceBEq, String.reduceBEq, Nat.reduceAdd, Nat.reduceSub, Nat.reduceMul, Int.reduceLE, Int.reduceLT, Int.reduceToNat, Int.reduceBEq, Int.reduceBNe, List.zipWith, dIntBin]
            omega
        · clear hm hpn hl h hAl hro hsz hl1 hl2
          generalize n.at_.map At.d = LA at *
          generalize n.st.map D.str = LS at *
          repeat' (first
    | simp only [*, AVB, AVY, ↓reduceIte, Nat.reduceEqDiff, Nat.reduceLT, Nat.reduceLeDiff, reduceCtorEq, Nat.reduceBEq, String.reduceBEq, Nat.reduceAdd, Nat.reduceSub, Nat.reduceMul, Int.reduceLE, Int.reduceLT, Int.reduceToNat, Int.reduceBEq, Int.reduceBNe, List.zipWith, dIntBin]
    | (refine drW_intro (by kernel_rfl) ?_)
    | (refine gw_intro (fun h => ?_) (fun h => ?_) <;> (try simp only [AVH] at h)))
          have hi2 : i < ns.length := HI
          refine hn _ ⟨i + 1, hi2, ?_, ?_, ?_, ?_, ?_⟩ ?_
          · simp only [*, AVL, ↓reduceIte, Nat.reduceEqDiff, Nat.reduceLT, Nat.reduceLeDiff, reduceCtorEq]
          · simp only [*, AVL, ↓reduceIte, Nat.reduceEqDiff, Nat.reduceLT, Nat.reduceLeDiff, reduceCtorEq]
          · simp only [*, AVL, ↓reduceIte, Nat.reduceEqDiff, Nat.reduceLT, Nat.reduceLeDiff, reduceCtorEq]
          · rw [show wtT ns i (i + 1) = Q from HQ]
            simp only [*, AVB, AVY, ↓reduceIte, Nat.reduceEqDiff, Nat.reduceLT, Nat.reduceLeDiff, reduceCtorEq, Nat.reduceBEq, String.reduceBEq, Nat.reduceAdd, Nat.reduceSub, Nat.reduceMul, Int.reduceLE, Int.reduceLT, Int.reduceToNat, Int.reduceBEq, Int.reduceBNe, List.zipWith, dIntBin]
          · rw [show wtT ns i (i + 1) = Q from HQ]
            simp only [*, AVB, AVY, ↓reduceIte, Nat.reduceEqDiff, Nat.reduceLT, Nat.reduceLeDiff, reduceCtorEq, Nat.reduceBEq, String.reduceBEq, Nat.reduceAdd, Nat.reduceSub, Nat.reduceMul, Int.reduceLE, Int.reduceLT, Int.reduceToNat, Int.reduceBEq, Int.reduceBNe, List.zipWith, dIntBin]
          · simp only [slotI, *, AVB, AVY, ↓reduceIte, Nat.reduceEqDiff, Nat.reduceLT, Nat.reduceLeDiff, reduceCtorEq, Nat.reduceBEq, String.reduceBEq, Nat.reduceAdd, Nat.reduceSub, Nat.reduceMul, Int.reduceLE, Int.reduceLT, Int.reduceToNat, Int.reduceBEq, Int.reduceBNe, List.zipWith, dIntBin]
            omega
      · rw [if_neg cq] at hre
        have b1 : ((i : Int) != (q : Int)) = true := by simp; omega
        have hra : roomN Q = .own 48 := by rw [hre]; exact roomN_app A _
        have hq : Q.map Nd.d = A.map Nd.d ++ [.agg [.int .i64 (lowP q n.p), .int .i64 n.k, .str n.sp, .str n.nm, .list (n.at_.map At.d), .list (n.st.map .str), .str n.tx]] := by rw [hre]; exact apN A _
        have hs1 : ∀ z, szOk 7 [D.agg [.int .i64 z, .int .i64 n.k, .str n.sp, .str n.nm, .list (n.at_.map At.d), .list (n.st.map .str), .str n.tx]] = true := fun z => rfl
        unfold lowP at hq
        by_cases cp : (q : Int) < n.p
        · have hwp : IntKind.i64.wrap (n.p - 1) = n.p - 1 := by rw [wrap64 _ (by omega) (by omega)]
          rw [if_pos cp] at hq
          clear hm hpn hl h hAl hre cq
          generalize n.at_.map At.d = LA at *
          generalize n.st.map D.str = LS at *
          repeat' (first
    | simp only [*, AVB, AVY, ↓reduceIte, Nat.reduceEqDiff, Nat.reduceLT, Nat.reduceLeDiff, reduceCtorEq, Nat.reduceBEq, String.reduceBEq, Nat.reduceAdd, Nat.reduceSub, Nat.reduceMul, Int.reduceLE, Int.reduceLT, Int.reduceToNat, Int.reduceBEq, Int.reduceBNe, List.zipWith, dIntBin]
    | (refine drW_intro (by kernel_rfl) ?_)
    | (refine gw_intro (fun h => ?_) (fun h => ?_) <;> (try simp only [AVH] at h)))
          have hi2 : i < ns.length := HI
          refine hn _ ⟨i + 1, hi2, ?_, ?_, ?_, ?_, ?_⟩ ?_
          · simp only [*, AVL, ↓reduceIte, Nat.reduceEqDiff, Nat.reduceLT, Nat.reduceLeDiff, reduceCtorEq]
          · simp only [*, AVL, ↓reduceIte, Nat.reduceEqDiff, Nat.reduceLT, Nat.reduceLeDiff, reduceCtorEq]
          · simp only [*, AVL, ↓reduceIte, Nat.reduceEqDiff, Nat.reduceLT, Nat.reduceLeDiff, reduceCtorEq]
          · rw [show wtT ns q (i + 1) = Q from HQ]
            simp only [*, AVB, AVY, ↓reduceIte, Nat.reduceEqDiff, Nat.reduceLT, Nat.reduceLeDiff, reduceCtorEq, Nat.reduceBEq, String.reduceBEq, Nat.reduceAdd, Nat.reduceSub, Nat.reduceMul, Int.reduceLE, Int.reduceLT, Int.reduceToNat, Int.reduceBEq, Int.reduceBNe, List.zipWith, dIntBin]
          · rw [show wtT ns q (i + 1) = Q from HQ]
            simp only [*, AVB, AVY, ↓reduceIte, Nat.reduceEqDiff, Nat.reduceLT, Nat.reduceLeDiff, reduceCtorEq, Nat.reduceBEq, String.reduceBEq, Nat.reduceAdd, Nat.reduceSub, Nat.reduceMul, Int.reduceLE, Int.reduceLT, Int.reduceToNat, Int.reduceBEq, Int.reduceBNe, List.zipWith, dIntBin]
          · simp only [slotI, *, AVB, AVY, ↓reduceIte, Nat.reduceEqDiff, Nat.reduceLT, Nat.reduceLeDiff, reduceCtorEq, Nat.reduceBEq, String.reduceBEq, Nat.reduceAdd, Nat.reduceSub, Nat.reduceMul, Int.reduceLE, Int.reduceLT, Int.reduceToNat, Int.reduceBEq, Int.reduceBNe, List.zipWith, dIntBin]
            omega
        · rw [if_neg cp] at hq
          clear hm hpn hl h hAl hre cq
          generalize n.at_.map At.d = LA at *
          generalize n.st.map D.str = LS at *
          repeat' (first
    | simp only [*, AVB, AVY, ↓reduceIte, Nat.reduceEqDiff, Nat.reduceLT, Nat.reduceLeDiff, reduceCtorEq, Nat.reduceBEq, String.reduceBEq, Nat.reduceAdd, Nat.reduceSub, Nat.reduceMul, Int.reduceLE, Int.reduceLT, Int.reduceToNat, Int.reduceBEq, Int.reduceBNe, List.zipWith, dIntBin]
    | (refine drW_intro (by kernel_rfl) ?_)
    | (refine gw_intro (fun h => ?_) (fun h => ?_) <;> (try simp only [AVH] at h)))
          have hi2 : i < ns.length := HI
          refine hn _ ⟨i + 1, hi2, ?_, ?_, ?_, ?_, ?_⟩ ?_
          · simp only [*, AVL, ↓reduceIte, Nat.reduceEqDiff, Nat.reduceLT, Nat.reduceLeDiff, reduceCtorEq]
          · simp only [*, AVL, ↓reduceIte, Nat.reduceEqDiff, Nat.reduceLT, Nat.reduceLeDiff, reduceCtorEq]
          · simp only [*, AVL, ↓reduceIte, Nat.reduceEqDiff, Nat.reduceLT, Nat.reduceLeDiff, reduceCtorEq]
          · rw [show wtT ns q (i + 1) = Q from HQ]
            simp only [*, AVB, AVY, ↓reduceIte, Nat.reduceEqDiff, Nat.reduceLT, Nat.reduceLeDiff, reduceCtorEq, Nat.reduceBEq, String.reduceBEq, Nat.reduceAdd, Nat.reduceSub, Nat.reduceMul, Int.reduceLE, Int.reduceLT, Int.reduceToNat, Int.reduceBEq, Int.reduceBNe, List.zipWith, dIntBin]
          · rw [show wtT ns q (i + 1) = Q from HQ]
            simp only [*, AVB, AVY, ↓reduceIte, Nat.reduceEqDiff, Nat.reduceLT, Nat.reduceLeDiff, reduceCtorEq, Nat.reduceBEq, String.reduceBEq, Nat.reduceAdd, Nat.reduceSub, Nat.reduceMul, Int.reduceLE, Int.reduceLT, Int.reduceToNat, Int.reduceBEq, Int.reduceBNe, List.zipWith, dIntBin]
          · simp only [slotI, *, AVB, AVY, ↓reduceIte, Nat.reduceEqDiff, Nat.reduceLT, Nat.reduceLeDiff, reduceCtorEq, Nat.reduceBEq, String.reduceBEq, Nat.reduceAdd, Nat.reduceSub, Nat.reduceMul, Int.reduceLE, Int.reduceLT, Int.reduceToNat, Int.reduceBEq, Int.reduceBNe, List.zipWith, dIntBin]
            omega
    · obtain rfl : i = ns.length := by omega
      have g9 : ¬ (ns.length : Int) < ns.length := by omega
      clear hn hr hl h
      repeat' (first
    | simp only [*, AVB, AVY, ↓reduceIte, Nat.reduceEqDiff, Nat.reduceLT, Nat.reduceLeDiff, reduceCtorEq, Nat.reduceBEq, String.reduceBEq, Nat.reduceAdd, Nat.reduceSub, Nat.reduceMul, Int.reduceLE, Int.reduceLT, Int.reduceToNat, Int.reduceBEq, Int.reduceBNe, List.zipWith, dIntBin]
    | (refine drW_intro (by kernel_rfl) ?_)
    | (refine gw_intro (fun h => ?_) (fun h => ?_) <;> (try simp only [AVH] at h)))
      refine hx _ _ ?_
      repeat' (first
    | simp only [*, AVB, AVY, ↓reduceIte, Nat.reduceEqDiff, Nat.reduceLT, Nat.reduceLeDiff, reduceCtorEq, Nat.reduceBEq, String.reduceBEq, Nat.reduceAdd, Nat.reduceSub, Nat.reduceMul, Int.reduceLE, Int.reduceLT, Int.reduceToNat, Int.reduceBEq, Int.reduceBNe, List.zipWith, dIntBin]
    | (refine drW_intro (by kernel_rfl) ?_)
    | (refine gw_intro (fun h => ?_) (fun h => ?_) <;> (try simp only [AVH] at h)))
end Go.Av
namespace Go.Av
open Go.Proofs
variable [Rk]
def rootN : List Nd → Int
  | [] => 0
  | n :: r => (if rootB n = true then 1 else 0) + rootN r
theorem chkG_iff : ∀ {r a : List Nd} {roots : Int}, chkG a r roots = (0, 0) ↔ (∀ (j : Nat) (n : Nd), r[j]? = some n → nodeF (a ++ r.take j) n = true) ∧ roots + rootN r = 1
  | [], a, roots => by
    rw [chkG]
    simp only [rootN, Int.add_zero]
    constructor
    · intro h
      split at h
      · rename_i hr
        exact ⟨fun j n hj => by simp at hj, hr⟩
      · simp at h
    · rintro ⟨_, h⟩
      rw [if_pos h]
  | n :: r, a, roots => by
    rw [chkG]
    have ih := chkG_iff (r := r) (a := a ++ [n]) (roots := if rootB n = true then roots + 1 else roots)
    constructor
    · intro h
      split at h
      · rename_i hn
        obtain ⟨h1, h2⟩ := ih.1 h
        refine ⟨fun j m hj => ?_, ?_⟩
        · cases j with
          | zero =>
            simp only [List.getElem?_cons_zero, Option.some.injEq] at hj
            subst hj
            simpa using hn
          | succ j =>
            have := h1 j m (by simpa using hj)
            simpa using this
        · rw [rootN]
          split at h2 <;> rename_i hb
          · rw [if_pos hb]; omega
          · rw [if_neg hb]; omega
      · simp at h
    · rintro ⟨h1, h2⟩
      have hn := h1 0 n rfl
      rw [List.take_zero, List.append_nil] at hn
      rw [if_pos hn]
      refine ih.2 ⟨fun j m hj => ?_, ?_⟩
      · have := h1 (j + 1) m (by simpa using hj)
        simpa using this
      · rw [rootN] at h2
        split at h2 <;> rename_i hb
        · rw [if_pos hb]; omega
        · rw [if_neg hb]; omega
theorem chkF_iff {ns : List Nd} : chkF ns = (0, 0) ↔ (∀ (j : Nat) (n : Nd), ns[j]? = some n → nodeF (ns.take j) n = true) ∧ rootN ns = 1 := by
  unfold chkF
  rw [chkG_iff]
  simp
theorem nodeF_iff {ahead : List Nd} {n : Nd} : nodeF ahead n = true ↔ (-1 ≤ n.p ∧ n.p < ahead.length ∧ (0 ≤ n.p → kindAt ahead n.p = 1)) ∧ bodyF n = true := by
  unfold nodeF parOk
  simp only [Bool.and_eq_true, Bool.not_eq_true', decide_eq_false_iff_not, Bool.and_eq_false_iff, bne_eq_false_iff_eq, Int.not_lt, Int.not_le]
  constructor
  · rintro ⟨⟨h1, h2, h3⟩, h4⟩
    exact ⟨⟨h1, h2, fun h => h3.resolve_left (by omega)⟩, h4⟩
  · rintro ⟨⟨h1, h2, h3⟩, h4⟩
    refine ⟨⟨h1, h2, ?_⟩, h4⟩
    by_cases h : 0 ≤ n.p
    · exact .inr (h3 h)
    · exact .inl (by omega)
theorem bodyF_low {n : Nd} {q : Int} (h0 : 0 ≤ q) (h : bodyF n = true) : bodyF (lowNd q n) = true := by
  have e : ∀ p : Int, ((n.at' p).k = n.k) := fun _ => rfl
  unfold bodyF at h ⊢
  have hk : (lowNd q n).k = n.k := rfl
  have hp : (lowNd q n).p = lowP q n.p := rfl
  have he : elmF (lowNd q n) = elmF n := rfl
  have ht : txtF (lowNd q n) = txtF n := rfl
  rw [hk, hp, he, ht]
  by_cases c : n.k = 1
  · rw [if_pos c] at h ⊢; exact h
  · rw [if_neg c] at h ⊢
    by_cases c2 : n.k = 2
    · rw [if_pos c2] at h ⊢
      by_cases c3 : n.p < 0
      · rw [if_pos c3] at h; cases h
      · rw [if_neg c3] at h
        rw [if_neg (by unfold lowP; split <;> omega)]
        exact h
    · rw [if_neg c2] at h ⊢; exact h
theorem rootB_low {n : Nd} {q : Int} (h0 : 0 ≤ q) : rootB (lowNd q n) = rootB n := by
  unfold rootB
  have hk : (lowNd q n).k = n.k := rfl
  have hp : (lowNd q n).p = lowP q n.p := rfl
  rw [hk, hp]
  congr 1
  unfold lowP
  split
  · rw [decide_eq_false (by omega), decide_eq_false (by omega)]
  · rfl
theorem rootN_map {l : List Nd} {q : Int} (h0 : 0 ≤ q) : rootN (l.map (lowNd q)) = rootN l := by
  induction l with
  | nil => rfl
  | cons n r ih => rw [List.map_cons, rootN, rootN, ih, rootB_low h0]
theorem rootN_erase : ∀ {l : List Nd} {i : Nat} {n : Nd}, l[i]? = some n → rootB n = false → rootN (l.eraseIdx i) = rootN l
  | [], i, n, h, _ => by simp at h
  | x :: r, 0, n, h, hb => by
    simp only [List.getElem?_cons_zero, Option.some.injEq] at h
    subst h
    rw [List.eraseIdx_cons_zero, rootN, if_neg (by rw [hb]; decide)]
    omega
  | x :: r, i + 1, n, h, hb => by
    rw [List.eraseIdx_cons_succ, rootN, rootN, rootN_erase (by simpa using h) hb]
theorem without_at {ns : List Nd} {i j : Nat} : (withoutN ns i)[j]? = (if j < i then ns[j]? else ns[j + 1]?).map (lowNd i) := by
  unfold withoutN
  rw [List.getElem?_map, List.getElem?_eraseIdx]
theorem kindAt_of {l : List Nd} {p : Int} {n : Nd} (h : l[p.toNat]? = some n) : kindAt l p = n.k := by
  unfold kindAt
  rw [h]
theorem kind_some {l : List Nd} {p : Int} (h : kindAt l p = 1) : ∃ n, l[p.toNat]? = some n ∧ n.k = 1 := by
  unfold kindAt at h
  split at h
  · rename_i n hn
    exact ⟨n, hn, h⟩
  · cases h
theorem without_right {ns : List Nd} {i : Nat} (h : chkF ns = (0, 0)) (hi : i < ns.length) (hm : mayF ns i = true) : chkF (withoutN ns i) = (0, 0) := by
  obtain ⟨h1, h2⟩ := chkF_iff.1 h
  obtain ⟨n0, hn0⟩ := some_at hi
  unfold mayF at hm
  simp only [Bool.and_eq_true, Bool.not_eq_true', List.any_eq_false] at hm
  obtain ⟨hpar, hroot⟩ := hm
  have hno : ∀ (j : Nat) (n : Nd), ns[j]? = some n → n.p ≠ (i : Int) := fun j n hj e => hpar n (List.mem_of_getElem? hj) (by unfold parQ; simpa using e)
  have hr0 : rootB n0 = false := by
    have e1 : kAt ns i = n0.k := by unfold kAt; rw [hn0]
    have e2 : pAt ns i = n0.p := by unfold pAt; rw [hn0]
    rw [e1, e2] at hroot
    exact hroot
  have h0 : (0 : Int) ≤ (i : Int) := Int.natCast_nonneg i
  refine chkF_iff.2 ⟨fun j x hj => ?_, ?_⟩
  · have hlen : (withoutN ns i).length = ns.length - 1 := by
      unfold withoutN
      rw [List.length_map, List.length_eraseIdx, if_pos hi]
    have hjl := (List.getElem?_eq_some_iff.1 hj).1
    have htl : ((withoutN ns i).take j).length = j := by rw [List.length_take]; omega
    rw [without_at] at hj
    obtain ⟨n, hn, rfl⟩ := Option.map_eq_some_iff.1 hj
    have key : ∀ (k : Nat) (hk : ns[k]? = some n), (k = j ∧ j < i) ∨ (k = j + 1 ∧ ¬ j < i) → nodeF ((withoutN ns i).take j) (lowNd i n) = true := by
      intro k hk hkj
      obtain ⟨⟨q1, q2, q3⟩, q4⟩ := nodeF_iff.1 (h1 k n hk)
      have hkl := (List.getElem?_eq_some_iff.1 hk).1
      have hk2 : (ns.take k).length = k := by rw [List.length_take]; omega
      rw [hk2] at q2
      have hne := hno k n hk
      have hp : (lowNd i n).p = lowP i n.p := rfl
      refine nodeF_iff.2 ⟨?_, bodyF_low h0 q4⟩
      rw [htl, hp]
      unfold lowP
      refine ⟨by split <;> omega, by split <;> omega, fun hge => ?_⟩
      have hnp : 0 ≤ n.p := by split at hge <;> omega
      obtain ⟨m, hm1, hm2⟩ := kind_some (q3 hnp)
      have hlt : n.p.toNat < k := by omega
      rw [List.getElem?_take, if_pos hlt] at hm1
      have : ((withoutN ns i).take j)[(if n.p > (i : Int) then n.p - 1 else n.p).toNat]? = some (lowNd i m) := by
        split
        · rename_i hgt
          have e1 : (n.p - 1).toNat < j := by omega
          rw [List.getElem?_take, if_pos e1, without_at, if_neg (by omega), show (n.p - 1).toNat + 1 = n.p.toNat by omega, hm1]
          rfl
        · rename_i hgt
          have e1 : n.p.toNat < j := by omega
          rw [List.getElem?_take, if_pos e1, without_at, if_pos (by omega), hm1]
          rfl
      rw [kindAt_of this]
      exact hm2
    by_cases c : j < i
    · rw [if_pos c] at hn
      exact key j hn (.inl ⟨rfl, c⟩)
    · rw [if_neg c] at hn
      exact key (j + 1) hn (.inr ⟨rfl, c⟩)
  · unfold withoutN
    rw [rootN_map h0, rootN_erase hn0 hr0, h2]
theorem without_small {ns : List Nd} {i : Nat} (h : SmallD ns) : SmallD (withoutN ns i) := by
  refine ⟨?_, fun x hx => ?_⟩
  · unfold withoutN
    rw [List.length_map, List.length_eraseIdx]
    have := h.1
    split <;> omega
  · unfold withoutN at hx
    obtain ⟨n, hn, rfl⟩ := List.mem_map.1 hx
    exact h.2 n (List.mem_of_mem_eraseIdx hn)
theorem par_bound {ns : List Nd} (h : chkF ns = (0, 0)) (hl : ns.length ≤ 10000) : ∀ n ∈ ns, -1 ≤ n.p ∧ n.p ≤ 10000 := by
  intro n hn
  obtain ⟨j, hj⟩ := List.getElem?_of_mem hn
  obtain ⟨⟨q1, q2, _⟩, _⟩ := nodeF_iff.1 ((chkF_iff.1 h).1 j n hj)
  have : (ns.take j).length ≤ ns.length := by rw [List.length_take]; omega
  omega
theorem noPtr_at (l : List At) : ∀ x ∈ flat (l.map At.d), noPtr x = true := by
  intro x hx
  unfold flat at hx
  obtain ⟨d, hd, hx⟩ := List.mem_flatMap.1 hx
  obtain ⟨a, _, rfl⟩ := List.mem_map.1 hd
  have hx : x ∈ [D.str a.sp, .str a.nm, .str a.vl] := hx
  simp only [List.mem_cons, List.not_mem_nil, or_false] at hx
  rcases hx with rfl | rfl | rfl <;> rfl
theorem noPtr_st (l : List (List UInt8)) : ∀ x ∈ flat (l.map D.str), noPtr x = true := by
  intro x hx
  unfold flat at hx
  obtain ⟨d, hd, hx⟩ := List.mem_flatMap.1 hx
  obtain ⟨a, _, rfl⟩ := List.mem_map.1 hd
  have hx : x ∈ [D.str a] := hx
  simp only [List.mem_cons, List.not_mem_nil, or_false] at hx
  subst hx
  rfl
theorem docOk_d {ns : List Nd} (h : SmallD ns) : docOk (ns.map Nd.d) = true := by
  unfold docOk
  rw [Bool.and_eq_true]
  refine ⟨nodes_ok h.small, ?_⟩
  rw [List.all_eq_true]
  intro d hd
  obtain ⟨n, _, rfl⟩ := List.mem_map.1 hd
  show ((flat (n.at_.map At.d)).all noPtr && (flat (n.st.map D.str)).all noPtr) = true
  rw [Bool.and_eq_true, List.all_eq_true, List.all_eq_true]
  exact ⟨noPtr_at _, noPtr_st _⟩
variable {chk : List D → Bool}
theorem ext_w {f : FuncId} {args : List D} {pbs : List Bx} {r : D × List Room × List Bx} (h0 : extF f args pbs = none) (h1 : extKc chk f args pbs = none) (h3 : extWh f args pbs = none) (h2 : extCl f args pbs = none) (h : extW f args pbs = some r) : ext11b chk f args pbs = some r := by
  unfold ext11b ext17 ext17a orExt
  rw [h0, h1]
  dsimp only
  rw [h3, h2, h]
theorem without_L (ns : List Nd) (i : Nat) (hS : SmallD ns) (hp : ∀ n ∈ ns, -1 ≤ n.p ∧ n.p ≤ 10000) (hi : i < ns.length) : callL Tryz.prog (ext11b chk) 42 [.list (ns.map Nd.d), .int .i64 (i : Int)] [] = some (.list ((withoutN ns i).map Nd.d), [], []) := by
  refine callL_ext (ext_w rfl rfl rfl rfl ?_)
  have hall : (ns.map Nd.d).all parSm = true := by
    rw [List.all_eq_true]
    intro d hd
    obtain ⟨n, hn, rfl⟩ := List.mem_map.1 hd
    have := hp n hn
    show (decide (-1000000 ≤ n.p) && decide (n.p ≤ 1000000)) = true
    rw [Bool.and_eq_true, decide_eq_true_eq, decide_eq_true_eq]
    omega
  show (if docOk (ns.map Nd.d) = true ∧ (ns.map Nd.d).all parSm = true ∧ 0 ≤ (i : Int) ∧ (i : Int).toNat < (ns.map Nd.d).length then some (D.list (withoutF (ns.map Nd.d) (i : Int).toNat), ([] : List Room), ([] : List Bx)) else none) = _
  rw [if_pos ⟨docOk_d hS, hall, by omega, by rw [Int.toNat_natCast, List.length_map]; exact hi⟩, Int.toNat_natCast, ← withoutN_d]
end Go.Av
namespace Go.Av
section
variable {α : Type}
def attT (T : α → Bool) (c : α → Option α) (s : α × Bool) : α × Bool :=
  match c s.1 with
  | some s' => if T s' = true then (s', true) else s
  | none => s
def passT (T : α → Bool) : List (α → Option α) → α × Bool → α × Bool
  | [], s => s
  | c :: r, s => passT T r (attT T c s)
theorem passT_app (T : α → Bool) : ∀ (a b : List (α → Option α)) (s : α × Bool), passT T (a ++ b) s = passT T b (passT T a s)
  | [], _, _ => rfl
  | c :: r, b, s => passT_app T r b (attT T c s)
theorem att_done (T : α → Bool) (c : α → Option α) (s : α) : (attT T c (s, true)).2 = true := by
  unfold attT
  split
  · split <;> rfl
  · rfl
theorem pass_done (T : α → Bool) : ∀ (cs : List (α → Option α)) (s : α), (passT T cs (s, true)).2 = true
  | [], _ => rfl
  | c :: r, s => by
    have h := att_done T c s
    rw [passT]
    revert h
    generalize attT T c (s, true) = t
    obtain ⟨t, b⟩ := t
    rintro rfl
    exact pass_done T r t
theorem pass_same (T : α → Bool) : ∀ (cs : List (α → Option α)) (s : α), (passT T cs (s, false)).2 = false → (passT T cs (s, false)).1 = s ∧ ∀ c ∈ cs, ∀ s', c s = some s' → T s' = false
  | [], s, _ => ⟨rfl, fun c h => by cases h⟩
  | c :: r, s, h => by
    rw [passT] at h ⊢
    cases hc : c s with
    | none =>
      have e : attT T c (s, false) = (s, false) := by unfold attT; simp only [hc]
      rw [e] at h ⊢
      obtain ⟨h1, h2⟩ := pass_same T r s h
      refine ⟨h1, fun d hd s' hs => ?_⟩
      rcases List.mem_cons.1 hd with rfl | hd
      · rw [hc] at hs; cases hs
      · exact h2 d hd s' hs
    | some t =>
      cases ht : T t with
      | true =>
        have e : attT T c (s, false) = (t, true) := by unfold attT; simp only [hc, ht, if_true]
        rw [e, pass_done] at h
        cases h
      | false =>
        have e : attT T c (s, false) = (s, false) := by unfold attT; simp [hc, ht]
        rw [e] at h ⊢
        obtain ⟨h1, h2⟩ := pass_same T r s h
        refine ⟨h1, fun d hd s' hs => ?_⟩
        rcases List.mem_cons.1 hd with rfl | hd
        · rw [hc] at hs
          obtain rfl := Option.some.inj hs
          exact ht
        · exact h2 d hd s' hs
theorem pass_inv (T : α → Bool) (P : α → Prop) : ∀ (cs : List (α → Option α)) (s : α) (b : Bool), (∀ c ∈ cs, ∀ s s', P s → c s = some s' → T s' = true → P s') → P s → P (passT T cs (s, b)).1
  | [], s, b, _, h => h
  | c :: r, s, b, hc, h => by
    rw [passT]
    have key : ∃ t b', attT T c (s, b) = (t, b') ∧ P t := by
      unfold attT
      split
      · rename_i s' hs
        split
        · rename_i ht
          exact ⟨s', true, rfl, hc c (List.mem_cons_self ..) s s' h hs ht⟩
        · exact ⟨s, b, rfl, h⟩
      · exact ⟨s, b, rfl, h⟩
    obtain ⟨t, b', e, ht⟩ := key
    rw [e]
    exact pass_inv T P r t b' (fun d hd => hc d (List.mem_cons_of_mem _ hd)) ht
theorem pass_size (T : α → Bool) (size : α → Nat) (P : α → Prop) : ∀ (cs : List (α → Option α)) (s : α) (b : Bool), (∀ c ∈ cs, ∀ s s', P s → c s = some s' → T s' = true → P s' ∧ size s' < size s) → P s →
    size (passT T cs (s, b)).1 ≤ size s ∧ (b = false → (passT T cs (s, b)).2 = true → size (passT T cs (s, b)).1 < size s)
  | [], s, b, _, _ => ⟨Nat.le_refl _, fun h h2 => by rw [h] at h2; cases h2⟩
  | c :: r, s, b, hc, h => by
    rw [passT]
    have hr := fun d hd => hc d (List.mem_cons_of_mem _ hd)
    unfold attT
    split
    · rename_i s' hs
      split
      · rename_i ht
        obtain ⟨p1, p2⟩ := hc c (List.mem_cons_self ..) s s' h hs ht
        obtain ⟨q1, _⟩ := pass_size T size P r s' true hr p1
        exact ⟨by omega, fun _ _ => by omega⟩
      · exact pass_size T size P r s b hr h
    · exact pass_size T size P r s b hr h
end
end Go.Av
namespace Go.Av
open Go.Proofs
variable [Rk]
theorem attrsG_sub : ∀ (l p p' : List At), (∀ x ∈ p', x ∈ p) → attrsG p l = true → attrsG p' l = true
  | [], _, _, _, _ => rfl
  | x :: r, p, p', hp, h => by
    rw [attrsG, Bool.and_eq_true, Bool.and_eq_true] at h
    obtain ⟨⟨h1, h2⟩, h3⟩ := h
    rw [attrsG, h1, attrsG_sub r (p ++ [x]) (p' ++ [x]) (fun y hy => by
      rcases List.mem_append.1 hy with h | h
      · exact List.mem_append_left _ (hp y h)
      · exact List.mem_append_right _ h) h3]
    have : p'.any (sameN x.sp x.nm) = false := by
      rw [List.any_eq_false]
      intro y hy hs
      rw [Bool.not_eq_true', List.any_eq_false] at h2
      exact h2 y (hp y hy) hs
    rw [this]
    rfl
theorem attrsG_erase : ∀ (l p p' : List At) (k : Nat), (∀ x ∈ p', x ∈ p) → attrsG p l = true → attrsG p' (l.eraseIdx k) = true
  | [], _, _, _, _, _ => by simp [attrsG]
  | x :: r, p, p', 0, hp, h => by
    rw [attrsG, Bool.and_eq_true] at h
    exact attrsG_sub r (p ++ [x]) p' (fun y hy => List.mem_append_left _ (hp y hy)) h.2
  | x :: r, p, p', k + 1, hp, h => by
    have h0 := attrsG_sub (x :: r) p p' hp h
    rw [attrsG, Bool.and_eq_true] at h h0
    rw [List.eraseIdx_cons_succ, attrsG, h0.1, attrsG_erase r (p ++ [x]) (p' ++ [x]) k (fun y hy => by
      rcases List.mem_append.1 hy with h | h
      · exact List.mem_append_left _ (hp y h)
      · exact List.mem_append_right _ h) h.2]
    rfl
theorem statesG_sub : ∀ (l p p' : List (List UInt8)), (∀ x ∈ p', x ∈ p) → statesG p l = true → statesG p' l = true
  | [], _, _, _, _ => rfl
  | x :: r, p, p', hp, h => by
    rw [statesG, Bool.and_eq_true, Bool.and_eq_true] at h
    obtain ⟨⟨h1, h2⟩, h3⟩ := h
    rw [statesG, h1, statesG_sub r (p ++ [x]) (p' ++ [x]) (fun y hy => by
      rcases List.mem_append.1 hy with h | h
      · exact List.mem_append_left _ (hp y h)
      · exact List.mem_append_right _ h) h3]
    have : p'.contains x = false := by
      cases hc : p'.contains x with
      | false => rfl
      | true =>
        have hm := hp x (by simpa using hc)
        have : p.contains x = true := by simpa using hm
        rw [this] at h2
        cases h2
    rw [this]
    rfl
theorem statesG_erase : ∀ (l p p' : List (List UInt8)) (k : Nat), (∀ x ∈ p', x ∈ p) → statesG p l = true → statesG p' (l.eraseIdx k) = true
  | [], _, _, _, _, _ => by simp [statesG]
  | x :: r, p, p', 0, hp, h => by
    rw [statesG, Bool.and_eq_true] at h
    exact statesG_sub r (p ++ [x]) p' (fun y hy => List.mem_append_left _ (hp y hy)) h.2
  | x :: r, p, p', k + 1, hp, h => by
    have h0 := statesG_sub (x :: r) p p' hp h
    rw [statesG, Bool.and_eq_true] at h h0
    rw [List.eraseIdx_cons_succ, statesG, h0.1, statesG_erase r (p ++ [x]) (p' ++ [x]) k (fun y hy => by
      rcases List.mem_append.1 hy with h | h
      · exact List.mem_append_left _ (hp y h)
      · exact List.mem_append_right _ h) h.2]
    rfl
def Nd.noA (n : Nd) (k : Nat) : Nd := { n with at_ := n.at_.eraseIdx k }
def Nd.noS (n : Nd) (k : Nat) : Nd := { n with st := n.st.eraseIdx k }
theorem len0 {α : Type} {l : List α} (h : ((l.length : Int) == 0) = true) : l = [] := List.eq_nil_of_length_eq_zero (by simpa using h)
theorem txt_noA {n : Nd} {k : Nat} (h : txtF n = true) : txtF (n.noA k) = true := by
  unfold txtF at h ⊢
  simp only [Bool.and_eq_true] at h
  obtain ⟨h1, h2, h3, h4, h5⟩ := h
  simp only [Nd.noA, len0 h3, List.eraseIdx_nil]
  simp [h5]
  exact ⟨by simpa using h1, by simpa using h2, by simpa using h4⟩
theorem txt_noS {n : Nd} {k : Nat} (h : txtF n = true) : txtF (n.noS k) = true := by
  unfold txtF at h ⊢
  simp only [Bool.and_eq_true] at h
  obtain ⟨h1, h2, h3, h4, h5⟩ := h
  simp only [Nd.noS, len0 h4, List.eraseIdx_nil]
  simp [h5]
  exact ⟨by simpa using h1, by simpa using h2, by simpa using h3⟩
theorem elm_noA {n : Nd} {k : Nat} (h : elmF n = true) : elmF (n.noA k) = true := by
  unfold elmF at h ⊢
  simp only [Bool.and_eq_true] at h ⊢
  obtain ⟨h1, h2, h3, h4, h5, h6⟩ := h
  exact ⟨h1, h2, h3, h4, attrsG_erase _ _ _ k (fun _ h => h) h5, h6⟩
theorem elm_noS {n : Nd} {k : Nat} (h : elmF n = true) : elmF (n.noS k) = true := by
  unfold elmF at h ⊢
  simp only [Bool.and_eq_true] at h ⊢
  obtain ⟨h1, h2, h3, h4, h5, h6⟩ := h
  exact ⟨h1, h2, h3, h4, h5, statesG_erase _ _ _ k (fun _ h => h) h6⟩
theorem body_noA {n : Nd} {k : Nat} (h : bodyF n = true) : bodyF (n.noA k) = true := by
  unfold bodyF at h ⊢
  show (if n.k = 1 then elmF (n.noA k) else if n.k = 2 then (if n.p < 0 then false else txtF (n.noA k)) else if n.k = 3 then txtF (n.noA k) else false) = true
  split at h
  · rename_i c; rw [if_pos c]; exact elm_noA h
  · rename_i c; rw [if_neg c]
    split at h
    · rename_i c2; rw [if_pos c2]
      split at h
      · cases h
      · rename_i c3; rw [if_neg c3]; exact txt_noA h
    · rename_i c2; rw [if_neg c2]
      split at h
      · rename_i c3; rw [if_pos c3]; exact txt_noA h
      · cases h
theorem body_noS {n : Nd} {k : Nat} (h : bodyF n = true) : bodyF (n.noS k) = true := by
  unfold bodyF at h ⊢
  show (if n.k = 1 then elmF (n.noS k) else if n.k = 2 then (if n.p < 0 then false else txtF (n.noS k)) else if n.k = 3 then txtF (n.noS k) else false) = true
  split at h
  · rename_i c; rw [if_pos c]; exact elm_noS h
  · rename_i c; rw [if_neg c]
    split at h
    · rename_i c2; rw [if_pos c2]
      split at h
      · cases h
      · rename_i c3; rw [if_neg c3]; exact txt_noS h
    · rename_i c2; rw [if_neg c2]
      split at h
      · rename_i c3; rw [if_pos c3]; exact txt_noS h
      · cases h
theorem par_set {a : List Nd} {i : Nat} {n n' : Nd} (hi : a[i]? = some n) (hk : n'.k = n.k) (p : Int) : parOk (a.set i n') p = parOk a p := by
  unfold parOk
  rw [List.length_set]
  have : kindAt (a.set i n') p = kindAt a p := by
    unfold kindAt
    by_cases e : i = p.toNat
    · subst e
      rw [List.getElem?_set_self (List.getElem?_eq_some_iff.1 hi).1, hi]
      simpa using hk
    · rw [List.getElem?_set_ne e]
  rw [this]
theorem rootN_set : ∀ {a : List Nd} {i : Nat} {n n' : Nd}, a[i]? = some n → rootB n' = rootB n → rootN (a.set i n') = rootN a
  | [], _, _, _, h, _ => by simp at h
  | x :: r, 0, n, n', h, hr => by
    simp only [List.getElem?_cons_zero, Option.some.injEq] at h
    subst h
    rw [List.set_cons_zero, rootN, rootN, hr]
  | x :: r, i + 1, n, n', h, hr => by
    rw [List.set_cons_succ, rootN, rootN, rootN_set (a := r) (by simpa using h) hr]
theorem chk_set {ns : List Nd} {i : Nat} {n n' : Nd} (hi : ns[i]? = some n) (h : chkF ns = (0, 0)) (hk : n'.k = n.k) (hp : n'.p = n.p) (hb : bodyF n = true → bodyF n' = true) : chkF (ns.set i n') = (0, 0) := by
  unfold chkF at h ⊢
  obtain ⟨h1, h2⟩ := chkG_iff.1 h
  refine chkG_iff.2 ⟨fun j m hj => ?_, ?_⟩
  · rw [List.nil_append]
    have hpar : ∀ p, parOk ((ns.set i n').take j) p = parOk (ns.take j) p := fun p => by
      by_cases hij : i < j
      · rw [List.take_set]
        exact par_set (n := n) (by rw [List.getElem?_take, if_pos hij]; exact hi) hk p
      · rw [List.take_set, List.set_eq_of_length_le (by rw [List.length_take]; omega)]
    by_cases e : i = j
    · subst e
      rw [List.getElem?_set_self (List.getElem?_eq_some_iff.1 hi).1] at hj
      obtain rfl := Option.some.inj hj
      have := h1 i n hi
      rw [List.nil_append] at this
      unfold nodeF at this ⊢
      rw [Bool.and_eq_true] at this
      rw [hpar, hp, this.1, hb this.2]
      rfl
    · rw [List.getElem?_set_ne e] at hj
      have := h1 j m hj
      rw [List.nil_append] at this
      unfold nodeF at this ⊢
      rw [hpar]
      exact this
  · rw [rootN_set hi (by unfold rootB; rw [hk, hp])]
    exact h2
theorem chk_noA {ns : List Nd} {i : Nat} {n : Nd} (hi : ns[i]? = some n) (h : chkF ns = (0, 0)) (k : Nat) : chkF (ns.set i (n.noA k)) = (0, 0) := chk_set hi h rfl rfl body_noA
theorem chk_noS {ns : List Nd} {i : Nat} {n : Nd} (hi : ns[i]? = some n) (h : chkF ns = (0, 0)) (k : Nat) : chkF (ns.set i (n.noS k)) = (0, 0) := chk_set hi h rfl rfl body_noS
end Go.Av
namespace Go.Av
open Go.Proofs
variable [Rk]
abbrev Th := List Nd × Int
def movI (n : Int) (i : Nat) : Int := if (i : Int) < n then n - 1 else n
def lenA (ns : List Nd) (i : Nat) : Nat := match ns[i]? with | some n => n.at_.length | none => 0
def lenS (ns : List Nd) (i : Nat) : Nat := match ns[i]? with | some n => n.st.length | none => 0
def dropC (i : Nat) (s : Th) : Option Th := if i < s.1.length ∧ (i : Int) ≠ s.2 ∧ mayF s.1 i = true then some (withoutN s.1 i, movI s.2 i) else none
def noAC (i k : Nat) (s : Th) : Option Th := match s.1[i]? with
  | some n => if k < n.at_.length then some (s.1.set i (n.noA k), s.2) else none
  | none => none
def noSC (i k : Nat) (s : Th) : Option Th := match s.1[i]? with
  | some n => if k < n.st.length then some (s.1.set i (n.noS k), s.2) else none
  | none => none
def dropCs (s : Th) : List (Th → Option Th) := (List.range s.1.length).reverse.map dropC
def noACs (s : Th) : List (Th → Option Th) := (List.range s.1.length).flatMap fun i => (List.range (lenA s.1 i)).reverse.map (noAC i)
def noSCs (s : Th) : List (Th → Option Th) := (List.range s.1.length).flatMap fun i => (List.range (lenS s.1 i)).reverse.map (noSC i)
def smallF (s : Th) : List Th := (List.range s.1.length).flatMap fun i => (dropC i s).toList ++ ((List.range (lenA s.1 i)).filterMap (fun k => noAC i k s) ++ (List.range (lenS s.1 i)).filterMap (fun k => noSC i k s))
def roundT (T : Th → Bool) (s : Th) : Th × Bool :=
  let a := passT T (dropCs s) (s, false)
  let b := passT T (noACs a.1) (a.1, false)
  let c := passT T (noSCs b.1) (b.1, false)
  (c.1, a.2 || b.2 || c.2)
theorem round_same {T : Th → Bool} {s : Th} (h : (roundT T s).2 = false) : (roundT T s).1 = s ∧ ∀ x ∈ smallF s, T x = false := by
  unfold roundT at h ⊢
  simp only [Bool.or_eq_false_iff] at h ⊢
  obtain ⟨⟨h1, h2⟩, h3⟩ := h
  obtain ⟨e1, q1⟩ := pass_same T _ _ h1
  rw [e1] at h2 h3 ⊢
  obtain ⟨e2, q2⟩ := pass_same T _ _ h2
  rw [e2] at h3 ⊢
  obtain ⟨e3, q3⟩ := pass_same T _ _ h3
  refine ⟨e3, fun x hx => ?_⟩
  unfold smallF at hx
  obtain ⟨i, hi, hx⟩ := List.mem_flatMap.1 hx
  rcases List.mem_append.1 hx with hx | hx
  · have hx : dropC i s = some x := by simpa using hx
    exact q1 (dropC i) (List.mem_map.2 ⟨i, by simpa using hi, rfl⟩) x hx
  · rcases List.mem_append.1 hx with hx | hx
    · obtain ⟨k, hk, hx⟩ := List.mem_filterMap.1 hx
      exact q2 (noAC i k) (List.mem_flatMap.2 ⟨i, hi, List.mem_map.2 ⟨k, by simpa using hk, rfl⟩⟩) x hx
    · obtain ⟨k, hk, hx⟩ := List.mem_filterMap.1 hx
      exact q3 (noSC i k) (List.mem_flatMap.2 ⟨i, hi, List.mem_map.2 ⟨k, by simpa using hk, rfl⟩⟩) x hx
structure InvT (s : Th) : Prop where
  small : SmallD s.1
  right : chkF s.1 = (0, 0)
  elem : ∃ (j : Nat) (n : Nd), s.2 = (j : Int) ∧ s.1[j]? = some n ∧ n.k = 1
def bigT (s : Th) : Nat := s.1.length + sumN s.1
theorem sumN_set : ∀ {l : List Nd} {i : Nat} {n n' : Nd}, l[i]? = some n → cntN n' + 1 = cntN n → sumN (l.set i n') + 1 = sumN l
  | [], _, _, _, h, _ => by simp at h
  | x :: r, 0, n, n', h, hc => by
    simp only [List.getElem?_cons_zero, Option.some.injEq] at h
    subst h
    rw [List.set_cons_zero, sumN, sumN]
    omega
  | x :: r, i + 1, n, n', h, hc => by
    have := sumN_set (l := r) (i := i) (by simpa using h) hc
    rw [List.set_cons_succ, sumN, sumN]
    omega
theorem sumN_erase : ∀ (l : List Nd) (i : Nat), sumN (l.eraseIdx i) ≤ sumN l
  | [], i => by simp
  | x :: r, 0 => by rw [List.eraseIdx_cons_zero, sumN]; omega
  | x :: r, i + 1 => by
    have := sumN_erase r i
    rw [List.eraseIdx_cons_succ, sumN, sumN]
    omega
theorem sumN_low (q : Int) : ∀ l : List Nd, sumN (l.map (lowNd q)) = sumN l
  | [] => rfl
  | x :: r => by
    rw [List.map_cons, sumN, sumN, sumN_low q r]
    rfl
theorem drop_less {s s' : Th} {i : Nat} (h : InvT s) (hd : dropC i s = some s') : InvT s' ∧ bigT s' < bigT s := by
  unfold dropC at hd
  split at hd
  case isFalse => cases hd
  rename_i hc
  obtain ⟨hi, hne, hm⟩ := hc
  obtain rfl := Option.some.inj hd
  obtain ⟨j, n, hj, hn, hk⟩ := h.elem
  have hjl := (List.getElem?_eq_some_iff.1 hn).1
  refine ⟨⟨without_small h.small, without_right h.right hi hm, ?_⟩, ?_⟩
  · unfold movI
    rw [hj] at hne ⊢
    by_cases c : i < j
    · refine ⟨j - 1, lowNd i n, ?_, ?_, hk⟩
      · show (if (i : Int) < (j : Int) then (j : Int) - 1 else j) = _
        rw [if_pos (by omega)]
        omega
      · show (withoutN s.1 i)[j - 1]? = _
        rw [without_at, if_neg (by omega), show j - 1 + 1 = j by omega, hn]
        rfl
    · refine ⟨j, lowNd i n, ?_, ?_, hk⟩
      · show (if (i : Int) < (j : Int) then (j : Int) - 1 else j) = _
        rw [if_neg (by omega)]
      · show (withoutN s.1 i)[j]? = _
        rw [without_at, if_pos (by omega), hn]
        rfl
  · unfold bigT withoutN
    have := sumN_erase s.1 i
    show ((s.1.eraseIdx i).map (lowNd i)).length + sumN ((s.1.eraseIdx i).map (lowNd i)) < _
    rw [sumN_low, List.length_map, List.length_eraseIdx, if_pos hi]
    omega
theorem set_less {s : Th} {i : Nat} {n n' : Nd} (h : InvT s) (hi : s.1[i]? = some n) (hr : chkF (s.1.set i n') = (0, 0)) (hk : n'.k = n.k) (hs : SmallN n → SmallN n') (hc : cntN n' + 1 = cntN n) : InvT (s.1.set i n', s.2) ∧ bigT (s.1.set i n', s.2) < bigT s := by
  obtain ⟨j, m, hj, hm, hk2⟩ := h.elem
  refine ⟨⟨⟨by rw [List.length_set]; exact h.small.1, fun x hx => ?_⟩, hr, ?_⟩, ?_⟩
  · rcases List.mem_or_eq_of_mem_set hx with hx | rfl
    · exact h.small.2 x hx
    · exact hs (h.small.2 n (List.mem_of_getElem? hi))
  · by_cases e : i = j
    · subst e
      refine ⟨i, n', hj, by rw [List.getElem?_set_self (List.getElem?_eq_some_iff.1 hi).1], ?_⟩
      rw [hi] at hm
      obtain rfl := Option.some.inj hm
      rw [hk, hk2]
    · exact ⟨j, m, hj, by rw [List.getElem?_set_ne e]; exact hm, hk2⟩
  · have := sumN_set hi hc
    show (s.1.set i n').length + sumN (s.1.set i n') < s.1.length + sumN s.1
    rw [List.length_set]
    omega
theorem noA_less {s s' : Th} {i k : Nat} (h : InvT s) (hd : noAC i k s = some s') : InvT s' ∧ bigT s' < bigT s := by
  unfold noAC at hd
  split at hd
  case h_2 => cases hd
  rename_i n hn
  split at hd
  case isFalse => cases hd
  rename_i hk
  obtain rfl := Option.some.inj hd
  have hl : (n.at_.eraseIdx k).length + 1 = n.at_.length := by rw [List.length_eraseIdx, if_pos hk]; omega
  refine set_less h hn (chk_noA hn h.right k) rfl (fun hs => ?_) ?_
  · obtain ⟨h1, h2, h3, h4, h5, h6⟩ := hs
    exact ⟨by show (n.at_.eraseIdx k).length ≤ _; omega, h2, h3, h4, h5, fun a ha => h6 a (List.mem_of_mem_eraseIdx ha)⟩
  · show (n.at_.eraseIdx k).length + n.st.length + 1 = n.at_.length + n.st.length
    omega
theorem noS_less {s s' : Th} {i k : Nat} (h : InvT s) (hd : noSC i k s = some s') : InvT s' ∧ bigT s' < bigT s := by
  unfold noSC at hd
  split at hd
  case h_2 => cases hd
  rename_i n hn
  split at hd
  case isFalse => cases hd
  rename_i hk
  obtain rfl := Option.some.inj hd
  have hl : (n.st.eraseIdx k).length + 1 = n.st.length := by rw [List.length_eraseIdx, if_pos hk]; omega
  refine set_less h hn (chk_noS hn h.right k) rfl (fun hs => ?_) ?_
  · obtain ⟨h1, h2, h3⟩ := hs
    exact ⟨h1, by show (n.st.eraseIdx k).length ≤ _; omega, h3⟩
  · show n.at_.length + (n.st.eraseIdx k).length + 1 = n.at_.length + n.st.length
    omega
theorem cand_less {s0 s s' : Th} {c : Th → Option Th} (hc : c ∈ dropCs s0 ∨ c ∈ noACs s0 ∨ c ∈ noSCs s0) (h : InvT s) (hd : c s = some s') : InvT s' ∧ bigT s' < bigT s := by
  rcases hc with hc | hc | hc
  · obtain ⟨i, _, rfl⟩ := List.mem_map.1 hc
    exact drop_less h hd
  · obtain ⟨i, _, hc⟩ := List.mem_flatMap.1 hc
    obtain ⟨k, _, rfl⟩ := List.mem_map.1 hc
    exact noA_less h hd
  · obtain ⟨i, _, hc⟩ := List.mem_flatMap.1 hc
    obtain ⟨k, _, rfl⟩ := List.mem_map.1 hc
    exact noS_less h hd
theorem pass_good {T : Th → Bool} {s0 s : Th} {cs : List (Th → Option Th)} (hc : cs = dropCs s0 ∨ cs = noACs s0 ∨ cs = noSCs s0) (h : InvT s) :
    InvT (passT T cs (s, false)).1 ∧ bigT (passT T cs (s, false)).1 ≤ bigT s ∧ ((passT T cs (s, false)).2 = true → bigT (passT T cs (s, false)).1 < bigT s) ∧ (T s = true → T (passT T cs (s, false)).1 = true) := by
  have key : ∀ c ∈ cs, ∀ s s', InvT s → c s = some s' → T s' = true → InvT s' ∧ bigT s' < bigT s := fun c hm s s' hs hd _ => by
    refine cand_less (s0 := s0) (c := c) ?_ hs hd
    rcases hc with rfl | rfl | rfl
    · exact .inl hm
    · exact .inr (.inl hm)
    · exact .inr (.inr hm)
  obtain ⟨q1, q2⟩ := pass_size T bigT InvT cs s false key h
  refine ⟨pass_inv T InvT cs s false (fun c hm s s' hs hd ht => (key c hm s s' hs hd ht).1) h, q1, q2 rfl, fun ht => ?_⟩
  exact pass_inv T (fun s => T s = true) cs s false (fun c hm s s' _ _ ht => ht) ht
theorem round_good {T : Th → Bool} {s : Th} (h : InvT s) : InvT (roundT T s).1 ∧ bigT (roundT T s).1 ≤ bigT s ∧ ((roundT T s).2 = true → bigT (roundT T s).1 < bigT s) ∧ (T s = true → T (roundT T s).1 = true) := by
  unfold roundT
  simp only [Bool.or_eq_true]
  obtain ⟨a1, a2, a3, a4⟩ := pass_good (T := T) (s0 := s) (.inl rfl) h
  obtain ⟨b1, b2, b3, b4⟩ := pass_good (T := T) (s0 := (passT T (dropCs s) (s, false)).1) (.inr (.inl rfl)) a1
  obtain ⟨c1, c2, c3, c4⟩ := pass_good (T := T) (s0 := (passT T (noACs (passT T (dropCs s) (s, false)).1) ((passT T (dropCs s) (s, false)).1, false)).1) (.inr (.inr rfl)) b1
  refine ⟨c1, by omega, ?_, fun ht => c4 (b4 (a4 ht))⟩
  rintro ((e | e) | e)
  · have := a3 e; omega
  · have := b3 e; omega
  · have := c3 e; omega
def thinF (T : Th → Bool) : Nat → Th → Th
  | 0, s => s
  | f + 1, s => if (roundT T s).2 = true then thinF T f (roundT T s).1 else (roundT T s).1
theorem thin_good {T : Th → Bool} : ∀ {f : Nat} {s : Th}, InvT s → bigT s < f → InvT (thinF T f s) ∧ bigT (thinF T f s) ≤ bigT s ∧ (T s = true → T (thinF T f s) = true) ∧ ∀ x ∈ smallF (thinF T f s), T x = false
  | 0, s, _, hf => absurd hf (Nat.not_lt_zero _)
  | f + 1, s, h, hf => by
    obtain ⟨r1, r2, r3, r4⟩ := round_good (T := T) h
    rw [thinF]
    split
    · rename_i hr
      have := r3 hr
      obtain ⟨i1, i2, i3, i4⟩ := thin_good (T := T) (f := f) r1 (by omega)
      exact ⟨i1, by omega, fun ht => i3 (r4 ht), i4⟩
    · rename_i hr
      have hr : (roundT T s).2 = false := by simpa using hr
      obtain ⟨e, hs⟩ := round_same hr
      rw [e]
      exact ⟨h, Nat.le_refl _, id, hs⟩
end Go.Av
namespace Go.Av
open Go.Proofs
variable [Rk]
def dT (t : D) (s : Th) : TS := (s.1.map Nd.d, s.2, t)
def cutT (b : Bool) (i k : Nat) : Th → Option Th := if b = true then noAC i k else noSC i k
def lenC (b : Bool) (ns : List Nd) (i : Nat) : Nat := if b = true then lenA ns i else lenS ns i
theorem len_set {f : Nd → Nat} {g : List Nd → Nat → Nat} (hg : ∀ l i, g l i = match l[i]? with | some n => f n | none => 0) {l : List Nd} {i : Nat} {n n' : Nd} (hi : l[i]? = some n) : (∀ j, j ≠ i → g (l.set i n') j = g l j) ∧ g (l.set i n') i = f n' ∧ g l i = f n := by
  refine ⟨fun j hj => ?_, ?_, ?_⟩
  · rw [hg, hg, List.getElem?_set_ne (fun e => hj e.symm)]
  · rw [hg, List.getElem?_set_self (List.getElem?_eq_some_iff.1 hi).1]
  · rw [hg, hi]
theorem erase_map {α β : Type} (f : α → β) : ∀ (l : List α) (k : Nat), (l.map f).eraseIdx k = (l.eraseIdx k).map f
  | [], k => by simp
  | x :: r, 0 => rfl
  | x :: r, k + 1 => by rw [List.map_cons, List.eraseIdx_cons_succ, List.eraseIdx_cons_succ, List.map_cons, erase_map f r k]
theorem cut_at (b : Bool) {s : Th} {i k : Nat} (hk : k < lenC b s.1 i) : ∃ s' : Th, cutT b i k s = some s' ∧ cutAt b (s.1.map Nd.d) i k = some (s'.1.map Nd.d) ∧ s'.2 = s.2 ∧ s'.1.length = s.1.length ∧ (∀ j, j ≠ i → lenC b s'.1 j = lenC b s.1 j) ∧ lenC b s'.1 i + 1 = lenC b s.1 i := by
  cases b with
  | true =>
    have hk : k < lenA s.1 i := hk
    obtain ⟨n, hn⟩ : ∃ n, s.1[i]? = some n := by
      unfold lenA at hk
      split at hk
      · rename_i n hn; exact ⟨n, hn⟩
      · omega
    obtain ⟨q1, q2, q3⟩ := len_set (f := fun n => n.at_.length) (g := lenA) (fun _ _ => rfl) (n' := n.noA k) hn
    rw [q3] at hk
    refine ⟨(s.1.set i (n.noA k), s.2), ?_, ?_, rfl, List.length_set .., q1, ?_⟩
    · show noAC i k s = _
      unfold noAC
      rw [hn]
      show (if k < n.at_.length then _ else _) = _
      rw [if_pos hk]
    · unfold cutAt
      rw [List.getElem?_map, hn]
      show (if true = true then (if k < (n.at_.map At.d).length then some ((s.1.map Nd.d).set i (.agg [.int .i64 n.p, .int .i64 n.k, .str n.sp, .str n.nm, .list ((n.at_.map At.d).eraseIdx k), .list (n.st.map .str), .str n.tx])) else none) else _) = _
      rw [if_pos rfl, if_pos (by rw [List.length_map]; exact hk), List.map_set]
      congr 2
      show _ = D.agg [.int .i64 n.p, .int .i64 n.k, .str n.sp, .str n.nm, .list ((n.at_.eraseIdx k).map At.d), .list (n.st.map .str), .str n.tx]
      rw [erase_map]
    · show lenA (s.1.set i (n.noA k)) i + 1 = lenA s.1 i
      rw [q2, q3]
      show (n.at_.eraseIdx k).length + 1 = n.at_.length
      have hk : k < n.at_.length := hk
      rw [List.length_eraseIdx, if_pos hk]
      omega
  | false =>
    have hk : k < lenS s.1 i := hk
    obtain ⟨n, hn⟩ : ∃ n, s.1[i]? = some n := by
      unfold lenS at hk
      split at hk
      · rename_i n hn; exact ⟨n, hn⟩
      · omega
    obtain ⟨q1, q2, q3⟩ := len_set (f := fun n => n.st.length) (g := lenS) (fun _ _ => rfl) (n' := n.noS k) hn
    rw [q3] at hk
    refine ⟨(s.1.set i (n.noS k), s.2), ?_, ?_, rfl, List.length_set .., q1, ?_⟩
    · show noSC i k s = _
      unfold noSC
      rw [hn]
      show (if k < n.st.length then _ else _) = _
      rw [if_pos hk]
    · unfold cutAt
      rw [List.getElem?_map, hn]
      show (if false = true then _ else (if k < (n.st.map D.str).length then some ((s.1.map Nd.d).set i (.agg [.int .i64 n.p, .int .i64 n.k, .str n.sp, .str n.nm, .list (n.at_.map At.d), .list ((n.st.map .str).eraseIdx k), .str n.tx])) else none)) = _
      rw [if_neg (by decide), if_pos (by rw [List.length_map]; exact hk), List.map_set]
      congr 2
      show _ = D.agg [.int .i64 n.p, .int .i64 n.k, .str n.sp, .str n.nm, .list (n.at_.map At.d), .list ((n.st.eraseIdx k).map .str), .str n.tx]
      rw [erase_map]
    · show lenS (s.1.set i (n.noS k)) i + 1 = lenS s.1 i
      rw [q2, q3]
      show (n.st.eraseIdx k).length + 1 = n.st.length
      have hk : k < n.st.length := hk
      rw [List.length_eraseIdx, if_pos hk]
      omega
theorem cut_less {b : Bool} {s s' : Th} {i k : Nat} (h : InvT s) (hd : cutT b i k s = some s') : InvT s' := by
  cases b with
  | true => exact (noA_less h hd).1
  | false => exact (noS_less h hd).1
theorem lenAt_map (b : Bool) {ns : List Nd} {i : Nat} (hi : i < ns.length) : lenAt b ((ns.map Nd.d)[i]?) = some (lenC b ns i) := by
  obtain ⟨n, hn⟩ := some_at hi
  rw [List.getElem?_map, hn]
  show some (if b = true then (n.at_.map At.d).length else (n.st.map D.str).length) = _
  rw [List.length_map, List.length_map]
  unfold lenC lenA lenS
  rw [hn]
def TryOK (call : Call) (T : Th → Bool) (t : D) : Prop := ∀ s s' : Th, InvT s → InvT s' → tryR (call 41 [.ptr (pid 0) 0 0, .list (s'.1.map Nd.d), .int .i64 s'.2] [⟨0, [.list (s.1.map Nd.d), .int .i64 s.2, t], []⟩]) = some (T s', dT t (if T s' = true then s' else s))
theorem inner_pass {call : Call} {T : Th → Bool} {t : D} (HT : TryOK call T t) (b : Bool) (i : Nat) : ∀ (k : Nat) (s : Th) (dn : Bool), InvT s → k ≤ lenC b s.1 i →
    innerT call b i k (dT t s, dn) = some (dT t (passT T ((List.range k).reverse.map (cutT b i)) (s, dn)).1, (passT T ((List.range k).reverse.map (cutT b i)) (s, dn)).2) ∧
    (∀ j, j ≠ i → lenC b (passT T ((List.range k).reverse.map (cutT b i)) (s, dn)).1.1 j = lenC b s.1 j) ∧ (passT T ((List.range k).reverse.map (cutT b i)) (s, dn)).1.1.length = s.1.length ∧ InvT (passT T ((List.range k).reverse.map (cutT b i)) (s, dn)).1
  | 0, s, dn, h, _ => by
    refine ⟨?_, fun _ _ => rfl, rfl, h⟩
    unfold innerT dT
    rw [if_pos (docOk_d h.small)]
    rfl
  | k + 1, s, dn, h, hk => by
    obtain ⟨s', c1, c2, c3, c4, c5, c6⟩ := cut_at b (show k < lenC b s.1 i by omega)
    have h' := cut_less h c1
    have ht := HT s s' h h'
    rw [c3] at ht
    rw [List.range_succ, List.reverse_append, List.reverse_singleton, List.singleton_append, List.map_cons, passT]
    unfold innerT dT attT
    rw [if_pos (docOk_d h.small), c2, c1]
    dsimp only
    rw [ht]
    dsimp only
    cases hT : T s' with
    | true =>
      rw [if_pos rfl, if_pos rfl, if_pos rfl]
      obtain ⟨p1, p2, p3, p4⟩ := inner_pass HT b i k s' true h' (by omega)
      refine ⟨p1, fun j hj => (p2 j hj).trans (c5 j hj), p3.trans c4, p4⟩
    | false =>
      rw [if_neg (by decide), if_neg (by decide), if_neg (by decide)]
      exact inner_pass HT b i k s dn h (by omega)
theorem outer_pass {call : Call} {T : Th → Bool} {t : D} (HT : TryOK call T t) (b : Bool) (s0 : List Nd) : ∀ (j i : Nat) (s : Th) (dn : Bool), InvT s → i + j = s.1.length → (∀ m, i ≤ m → lenC b s.1 m = lenC b s0 m) →
    outerT call b j i (dT t s, dn) = some (dT t (passT T ((List.range' i j).flatMap fun m => (List.range (lenC b s0 m)).reverse.map (cutT b m)) (s, dn)).1, (passT T ((List.range' i j).flatMap fun m => (List.range (lenC b s0 m)).reverse.map (cutT b m)) (s, dn)).2)
  | 0, i, s, dn, h, _, _ => by
    unfold outerT dT
    rw [if_pos (docOk_d h.small)]
    rfl
  | j + 1, i, s, dn, h, hl, hm => by
    obtain ⟨p1, p2, p3, p4⟩ := inner_pass HT b i (lenC b s.1 i) s dn h (Nat.le_refl _)
    rw [hm i (Nat.le_refl _)] at p1 p2 p3 p4
    rw [List.range'_succ, List.flatMap_cons, passT_app]
    unfold outerT
    rw [show (dT t s, dn).1.1 = s.1.map Nd.d from rfl, if_pos (docOk_d h.small), lenAt_map b (by omega)]
    dsimp only
    rw [hm i (Nat.le_refl _), p1]
    dsimp only
    exact outer_pass HT b s0 j (i + 1) _ _ p4 (by omega) (fun m hmi => (p2 m (by omega)).trans (hm m (by omega)))
theorem attrs_pass {call : Call} {T : Th → Bool} {t : D} (HT : TryOK call T t) {s : Th} (h : InvT s) : outerT call true s.1.length 0 (dT t s, false) = some (dT t (passT T (noACs s) (s, false)).1, (passT T (noACs s) (s, false)).2) := by
  rw [outer_pass HT true s.1 s.1.length 0 s false h (by omega) (fun _ _ => rfl)]
  unfold noACs
  rw [List.range_eq_range']
  rfl
theorem states_pass {call : Call} {T : Th → Bool} {t : D} (HT : TryOK call T t) {s : Th} (h : InvT s) : outerT call false s.1.length 0 (dT t s, false) = some (dT t (passT T (noSCs s) (s, false)).1, (passT T (noSCs s) (s, false)).2) := by
  rw [outer_pass HT false s.1 s.1.length 0 s false h (by omega) (fun _ _ => rfl)]
  unfold noSCs
  rw [List.range_eq_range']
  rfl
end Go.Av
namespace Go.Av
open Go.Proofs
variable [Rk] {chk : List D → Bool}
def lowC (x : UInt8) : UInt8 := if 65 ≤ x.toNat ∧ x.toNat ≤ 90 then x + 32 else x
def lowB (l : List UInt8) : List UInt8 := l.map lowC
def lowI (n : Int) : Int := if n ≥ 65 ∧ n ≤ 90 then n + 32 else n
theorem lowC_I (x : UInt8) : IntKind.u8.wrap (lowI x.toNat) = ((lowC x).toNat : Int) := by
  have h := x.toNat_lt
  unfold lowI lowC
  rw [IntKind.wrap_u8]
  split <;> split
  · rw [UInt8.toNat_add]
    have : (32 : UInt8).toNat = 32 := rfl
    omega
  · omega
  · omega
  · omega
def byteD (b : UInt8) : D := .int .u8 b.toNat
theorem bytes_of : ∀ (l : List UInt8), bytesOf (l.map byteD) = some l
  | [] => rfl
  | x :: r => by
    show (bytesOf (r.map byteD)).map (UInt8.ofNat ((x.toNat : Int)).toNat :: ·) = _
    rw [bytes_of r]
    simp
end Go.Av
namespace Go.Av
open Go.Proofs
variable [Rk] {chk : List D → Bool}
set_option maxHeartbeats 1000000 in
theorem rsmall_L (n : Int) (h0 : 0 ≤ n) (h1 : n ≤ 1000000) : callL Tryz.prog (ext11b chk) 84 [.int .i64 n] [] = some (.int .i64 (lowI n), [.no], []) := by
  refine cK 12 2 Tryz.func84 ?_
  repeat' (first|simp only [*, AVB, AVY, ↓reduceIte, Nat.reduceEqDiff, Nat.reduceLT, Nat.reduceLeDiff, reduceCtorEq, Nat.reduceBEq, String.reduceBEq, Nat.reduceAdd, Nat.reduceSub, Nat.reduceMul, Int.reduceLE, Int.reduceLT, Int.reduceToNat, Int.reduceBEq, Int.reduceBNe, List.zipWith, dIntBin]|refine gw_intro (fun h => ?_) (fun h => ?_) <;> try simp only [AVH] at h)
  · rw [wrap64 (n + 32) (by omega) (by omega), lowI, if_pos (by omega)]
  · rw [lowI, if_neg (by omega)]
  · rw [lowI, if_neg (by omega)]
theorem szOk_bytes (l : List UInt8) : szOk 1 (l.map byteD) = true := by
  cases l <;> rfl
theorem at_get {l : List UInt8} {i : Nat} (h : i < l.length) : ∃ x, l[i]? = some x ∧ l.getD i 0 = x := ⟨l[i], List.getElem?_eq_getElem h, by simp [List.getD, h]⟩
set_option maxHeartbeats 1000000 in
theorem rlower_L (l : List UInt8) (hl : l.length < 1000000000) : ∃ r, callL Tryz.prog (ext11b chk) 70 [.str l] [] = some (.str (lowB l), r, []) := by
  refine ⟨[.no], ?_⟩
  refine cK 23 2 Tryz.func70 ?_
  refine Gy ?_
  refine loopH (fun s => ∃ i : Nat, i ≤ l.length ∧ s.slot 4 = .int .i64 i ∧ s.slot 0 = .str l ∧ s.slot 3 = .list ((lowB (l.take i)).map byteD) ∧ (s.room 3 = [.full] ∨ s.room 3 = [.own 5] ∨ s.room 3 = [.fresh])) (fun s => l.length - slotI s 4) ?_ ?_
  · exact ⟨0, Nat.zero_le _, Iy, Iy, Iy, Iy⟩
  · rintro s K ⟨i, hi, h4, h0, h3, hrm⟩ hn hx hr
    by_cases hlt : i < l.length
    · obtain ⟨x, hxl, hxd⟩ := at_get hlt
      have hlt' : (i : Int) < l.length := by omega
      have hlen : (lowB (l.take i)).length = i := by simp [lowB]; omega
      have hxb := x.toNat_lt
      have hw : IntKind.i64.wrap (x.toNat : Int) = x.toNat := wrap64 _ (by omega) (by omega)
      have hs := rsmall_L (chk := chk) (x.toNat : Int) (by omega) (by omega)
      have hc := lowC_I x
      have hfit : ((lowB (l.take i)).map byteD).length + 1 ≤ 1073741824 := by simp [hlen]; omega
      have hsz := szOk_bytes (lowB (l.take i))
      have hw1 : IntKind.i64.wrap ((i : Int) + 1) = ((i + 1 : Nat) : Int) := by rw [wrap64 _ (by omega) (by omega)]; omega
      have hnext : (lowB (l.take i)).map byteD ++ [.int .u8 (lowC x).toNat] = (lowB (l.take (i + 1))).map byteD := by
        rw [show l.take (i + 1) = l.take i ++ [x] from by rw [List.take_add_one, hxl]; rfl]
        simp [lowB, byteD]
      rcases hrm with hrm | hrm | hrm
      all_goals
        refine Gy ?_
        exact hn _ ⟨i + 1, hlt, L, L, L, L⟩ Zy
    · have hge : ¬ (i : Int) < l.length := by omega
      refine Gy ?_
      refine hx 0 _ ?_
      have hil : i = l.length := by omega
      subst hil
      rw [List.take_length] at h3
      have hby := bytes_of (lowB l)
      exact Wy
end Go.Av
namespace Go.Av
open Go.Proofs
variable [Rk] {chk : List D → Bool}
theorem take_any {α : Type} {p : α → Bool} {l : List α} {i : Nat} {x : α} (h : l[i]? = some x) : (l.take (i + 1)).any p = ((l.take i).any p || p x) := by
  rw [List.take_add_one, h]; simp
theorem any_at {α : Type} {p : α → Bool} {l : List α} {i : Nat} {x : α} (h : l[i]? = some x) (hp : p x = true) : l.any p = true := List.any_eq_true.2 ⟨x, List.mem_of_getElem? h, hp⟩
set_option maxHeartbeats 2000000 in
theorem rblank_L (l : List UInt8) (hl : l.length < 1000000000) : callL Tryz.prog (ext11b chk) 72 [.str l] [] = some (.bool (l.any blankB), [.no], []) := by
  refine cK 38 2 Tryz.func72 ?_
  refine Gy ?_
  refine loopH (fun s => ∃ i : Nat, i ≤ l.length ∧ s.slot 3 = .int .i64 i ∧ s.slot 0 = .str l ∧ (l.take i).any blankB = false) (fun s => l.length - slotI s 3) ?_ ?_
  · exact ⟨0, Nat.zero_le _, Iy, Iy, Iy⟩
  · rintro s K ⟨i, hi, h6, h0, hany⟩ hn hx hr
    by_cases hlt : i < l.length
    · obtain ⟨x, hxl, hxd⟩ := at_get hlt
      have hlt' : (i : Int) < l.length := by omega
      have hw1 : IntKind.i64.wrap ((i : Int) + 1) = ((i + 1 : Nat) : Int) := by rw [wrap64 _ (by omega) (by omega)]; omega
      have hta := take_any (p := blankB) hxl
      have hat := any_at (p := blankB) hxl
      have hbx : blankB x = (((((x.toNat : Int) == 32 || (x.toNat : Int) == 9) || (x.toNat : Int) == 10) || (x.toNat : Int) == 13) || (x.toNat : Int) == 12) := by
        have key : ∀ n : Nat, n < 256 → (x == UInt8.ofNat n) = ((x.toNat : Int) == (n : Int)) := fun n hn => by
          rw [Bool.eq_iff_iff, beq_iff_eq, beq_iff_eq, ← UInt8.toNat_inj, UInt8.toNat_ofNat']
          omega
        unfold blankB
        have k1 := key 32 (by decide); have k2 := key 9 (by decide); have k3 := key 10 (by decide); have k4 := key 13 (by decide); have k5 := key 12 (by decide)
        exact congr (congrArg _ (congr (congrArg _ (congr (congrArg _ (congr (congrArg _ k1) k2)) k3)) k4)) k5
      rw [hany, hbx] at hta
      rw [hbx] at hat
      clear hbx
      have hat' : ¬ (((((x.toNat : Int) == 32 || (x.toNat : Int) == 9) || (x.toNat : Int) == 10) || (x.toNat : Int) == 13) || (x.toNat : Int) == 12) = true ∨ l.any blankB = true := by
        by_cases h : (((((x.toNat : Int) == 32 || (x.toNat : Int) == 9) || (x.toNat : Int) == 10) || (x.toNat : Int) == 13) || (x.toNat : Int) == 12) = true
        · exact .inr (hat h)
        · exact .inl h
      clear hat
      replace hta := Hd.mk hta
      replace hat' := Hd.mk hat'
      repeat' (first|simp only [*, AVB, AVY, ↓reduceIte, Nat.reduceEqDiff, Nat.reduceLT, Nat.reduceLeDiff, reduceCtorEq, Nat.reduceBEq, String.reduceBEq, Nat.reduceAdd, Nat.reduceSub, Nat.reduceMul, Int.reduceLE, Int.reduceLT, Int.reduceToNat, Int.reduceBEq, Int.reduceBNe, List.zipWith, dIntBin]|refine gw_intro (fun h => ?_) (fun h => ?_) <;> try simp only [AVH] at h)
      all_goals
        first
        | (refine hr _ ?_
           have ha : l.any blankB = true := (hat' : _ ∨ _).resolve_left (fun hno => hno (by simp [*]))
           exact Wy
           done)
        | (refine hn _ ⟨i + 1, hlt, ?_, ?_, ?_⟩ ?_
           ·exact L
           ·exact L
           · exact Eq.trans hta (by simp [*])
           · simp only [slotI, *, AVB, AVY, ↓reduceIte, Nat.reduceEqDiff, Nat.reduceLT, Nat.reduceLeDiff, reduceCtorEq, Nat.reduceBEq, String.reduceBEq, Nat.reduceAdd, Nat.reduceSub, Nat.reduceMul, Int.reduceLE, Int.reduceLT, Int.reduceToNat, Int.reduceBEq, Int.reduceBNe, List.zipWith, dIntBin]
             omega)
    · have hge : ¬ (i : Int) < l.length := by omega
      refine Gy ?_
      refine hx 0 _ ?_
      have hil : i = l.length := by omega
      subst hil
      rw [List.take_length] at hany
      exact Wy
end Go.Av
namespace Go.Av
open Go.Proofs
variable [Rk] {chk : List D → Bool}
def condD (op : Int) (t : List UInt8) (fold : Bool) : D := .agg [.int .i64 op, .str t, .bool fold]
def lowC1 (fold : Bool) (l : List UInt8) : List UInt8 := if fold = true then lowB l else l
theorem preB_eq : ∀ (p s : List UInt8), preB p s = (decide (p.length ≤ s.length) && (s.take p.length == p))
  | [], s => by simp [preB]
  | _ :: _, [] => by simp [preB]
  | a :: p, b :: s => by
    rw [preB, preB_eq p s]
    simp only [List.length_cons, List.take_succ_cons, List.cons_beq_cons]
    rw [show decide (p.length + 1 ≤ s.length + 1) = decide (p.length ≤ s.length) from by simp]
    rw [show (b == a) = (a == b) from by rw [Bool.eq_iff_iff, beq_iff_eq, beq_iff_eq]; exact eq_comm]
    cases (a == b) <;> cases decide (p.length ≤ s.length) <;> rfl
end Go.Av
namespace Go.Av
open Go.Proofs
variable [Rk] {chk : List D → Bool}
theorem lowC1_len (fold : Bool) (l : List UInt8) : (lowC1 fold l).length = l.length := by
  unfold lowC1 lowB
  split
  · simp
  · rfl
def neverF (op : Int) (t : List UInt8) : Bool :=
  if (op == 1) = true then false else if (op == 2) = true then false else if (op == 4) = true then false else
  if (op == 3) = true then (t.any blankB || t == []) else if (op == 5) = true then t == [] else if (op == 6) = true then t == [] else if (op == 7) = true then t == [] else true
def dashF (t v : List UInt8) : Bool := preB t v && (v.drop t.length == [] || (v.drop t.length).getD 0 0 == 45)
def sufF (t v : List UInt8) : Bool := decide (t.length ≤ v.length) && (v.drop (v.length - t.length) == t)
def holdF (op : Int) (t v : List UInt8) : Bool :=
  if (op == 2) = true then v == t else if (op == 3) = true then (partsB v []).contains t else if (op == 4) = true then dashF t v else
  if (op == 5) = true then preB t v else if (op == 6) = true then sufF t v else if (op == 7) = true then hasB t v else true
def holdsF (op : Int) (t : List UInt8) (fold : Bool) (v : List UInt8) : Bool := if neverF op t = true then false else holdF op (lowC1 fold t) (lowC1 fold v)
theorem parts_len : ∀ (s p : List UInt8), (partsB s p).length ≤ s.length + 1
  | [], p => by unfold partsB; split <;> simp
  | x :: r, p => by
    unfold partsB
    have h1 := parts_len r []
    have h2 := parts_len r (p ++ [x])
    split
    · split
      · simp; omega
      · simp; omega
    · simp; omega
end Go.Av
namespace Go.Av
structure Nam where
  has : Bool
  dft : List UInt8
  pre : List (List UInt8)
  sps : List (List UInt8)
def Nam.cs (n : Nam) : List D := [.bool n.has, .str n.dft, .list (n.pre.map .str), .list (n.sps.map .str)]
structure Sf where
  kd : Int
  ns : Int
  pre : List UInt8
  nm : List UInt8
  op : Int
  tx : List UInt8
  fold : Bool
  mark : Int
  a : Int
  b : Int
  of_ : List D
def Sf.d (s : Sf) : D := .agg [.int .i64 s.kd, .int .i64 s.ns, .str s.pre, .str s.nm, .int .i64 s.op, .str s.tx, .bool s.fold, .int .i64 s.mark, .int .i64 s.a, .int .i64 s.b, .list s.of_]
def sf : D → Sf
  | .agg [.int .i64 kd, .int .i64 ns, .str pre, .str nm, .int .i64 op, .str tx, .bool fold, .int .i64 mark, .int .i64 a, .int .i64 b, .list of_] => ⟨kd, ns, pre, nm, op, tx, fold, mark, a, b, of_⟩
  | _ => ⟨0, 0, [], [], 0, [], false, 0, 0, 0, []⟩
theorem sf_d (s : Sf) : sf s.d = s := rfl
def cpD (c : Int) (l : List D) : D := .agg [.int .i64 c, .list l]
def cxD (l : List D) : D := .agg [.list l]
def cpC : D → Int
  | .agg [.int .i64 c, .list _] => c
  | _ => 0
def cpL : D → List D
  | .agg [.int .i64 _, .list l] => l
  | _ => []
def cxL : D → List D
  | .agg [.list l] => l
  | _ => []
def lenB (m : Nat) (l : List D) : Bool := decide (l.length ≤ m)
def cpOk (m : Nat) (S : D → Bool) : D → Bool
  | .agg [.int .i64 _, .list l] => lenB m l && l.all S
  | _ => false
def cxOk (m : Nat) (S : D → Bool) : D → Bool
  | .agg [.list l] => lenB m l && l.all (cpOk m S)
  | _ => false
def lsOk (m : Nat) (S : D → Bool) (l : List D) : Bool := lenB m l && l.all (cxOk m S)
def smOk (m : Nat) : Nat → D → Bool
  | 0, _ => false
  | k + 1, .agg [.int .i64 _, .int .i64 _, .str pre, .str nm, .int .i64 _, .str tx, .bool _, .int .i64 _, .int .i64 _, .int .i64 _, .list of_] =>
    decide (pre.length ≤ m) && decide (nm.length ≤ m) && decide (tx.length ≤ m) && lsOk m (smOk m k) of_
  | _ + 1, _ => false
theorem cpOk_inv {m : Nat} {S : D → Bool} {d : D} (h : cpOk m S d = true) : ∃ c l, d = cpD c l ∧ l.length ≤ m ∧ ∀ s ∈ l, S s = true := by
  unfold cpOk at h
  split at h
  · rename_i c l
    simp only [lenB, Bool.and_eq_true, decide_eq_true_eq, List.all_eq_true] at h
    exact ⟨c, l, rfl, h.1, h.2⟩
  · cases h
theorem cxOk_inv {m : Nat} {S : D → Bool} {d : D} (h : cxOk m S d = true) : ∃ l, d = cxD l ∧ l.length ≤ m ∧ ∀ x ∈ l, cpOk m S x = true := by
  unfold cxOk at h
  split at h
  · rename_i l
    simp only [lenB, Bool.and_eq_true, decide_eq_true_eq, List.all_eq_true] at h
    exact ⟨l, rfl, h.1, h.2⟩
  · cases h
theorem smOk_inv {m k : Nat} {d : D} (h : smOk m (k + 1) d = true) : d = (sf d).d ∧ (sf d).pre.length ≤ m ∧ (sf d).nm.length ≤ m ∧ (sf d).tx.length ≤ m ∧ lsOk m (smOk m k) (sf d).of_ = true := by
  unfold smOk at h
  split at h
  · cases ‹_ = _›
  · rename_i e
    cases e
    simp only [Bool.and_eq_true, decide_eq_true_eq] at h
    exact ⟨rfl, h.1.1.1, h.1.1.2, h.1.2, h.2⟩
  · cases h
def pseudoF (c : D) : List UInt8 := match (cxL c).getLast? with
  | some x => (match (cpL x).getLast? with
    | some s => if (sf s).kd = 13 then (sf s).nm else []
    | none => [])
  | none => []
def spaceF (n : Nam) (p : List UInt8) : List UInt8 × Bool := match n.pre.findIdx? (· == p) with
  | some i => (n.sps.getD i [], true)
  | none => ([], false)
def inPlF (nm : Nam) (ns : Int) (pre : List UInt8) (space : List UInt8) (attr : Bool) : Bool :=
  if ns = 0 then (if attr = true then space == [] else !nm.has || space == nm.dft)
  else if ns = 1 then true else if ns = 2 then space == []
  else if ns = 3 then (spaceF nm pre).2 && space == (spaceF nm pre).1 else false
def upsI (ns : List Nd) : Nat → Int → List Int
  | 0, _ => []
  | f + 1, n => if (parI ns n).2 = true then (parI ns n).1 :: upsI ns f (parI ns n).1 else []
def rowV (S : D → Int → Bool) (ns : List Nd) : List D → Int → Bool
  | [], _ => false
  | x :: r, n => (cpL x).all (S · n) && (r.isEmpty ||
    if cpC x = 2 then (parI ns n).2 && rowV S ns r (parI ns n).1
    else if cpC x = 3 then (ahdI ns n).2 && rowV S ns r (ahdI ns n).1
    else if cpC x = 1 then (upsI ns (n.toNat + 1) n).any (rowV S ns r)
    else if cpC x = 4 then (rowI ns n).dropLast.any (rowV S ns r)
    else false)
def listV (S : D → Int → Bool) (ns : List Nd) (l : List D) (n : Int) : Bool := l.any fun c => pseudoF c == [] && rowV S ns (cxL c).reverse n
def plainV (ns : List Nd) (n : Int) (name : List UInt8) (op : Int) (tx : List UInt8) : Bool := (valI ns n [] name).2 && holdsF op tx false (valI ns n [] name).1
def hasAB (a b n : Int) : Bool := if n < 1 then false else if a = 0 ∨ n = b then n == b else if decide (b < n) != decide (0 < a) then false else (n - b) % a == 0
def sClass : List UInt8 := [99, 108, 97, 115, 115]
def sId : List UInt8 := [105, 100]
def sHref : List UInt8 := [104, 114, 101, 102]
def sArea : List UInt8 := [97, 114, 101, 97]
def nthV (W : Int → Bool) (ns : List Nd) (a b n : Int) : Bool := W n && hasAB a b ((rowI ns n).countP W : Nat)
def simpleV (ns : List Nd) (nm : Nam) : Nat → D → Int → Bool
  | 0, _, _ => false
  | k + 1, d, n =>
    let s := sf d
    let x := nodeI ns n
    if s.kd = 1 then x.nm == s.nm && inPlF nm s.ns s.pre x.sp false
    else if s.kd = 2 then inPlF nm s.ns s.pre x.sp false
    else if s.kd = 3 then plainV ns n sClass 3 s.nm
    else if s.kd = 4 then plainV ns n sId 2 s.nm
    else if s.kd = 5 then x.at_.any fun a => a.nm == s.nm && (inPlF nm s.ns s.pre a.sp true && holdsF s.op s.tx s.fold a.vl)
    else if s.kd = 6 then !(parI ns n).2
    else if s.kd = 7 then nthV (fun j => s.of_.isEmpty || listV (simpleV ns nm k) ns s.of_ j) ns s.a s.b n
    else if s.kd = 8 ∨ s.kd = 9 then listV (simpleV ns nm k) ns s.of_ n
    else if s.kd = 10 then !listV (simpleV ns nm k) ns s.of_ n
    else if s.kd = 11 then staI ns n s.nm
    else if s.kd = 12 then (x.nm == [97] || x.nm == sArea) && (inPlF nm 0 [] x.sp false && plainV ns n sHref 1 [])
    else s.kd == 13
end Go.Av
namespace Go.Av
def badS (deep : Int) (s : D) : Bool := decide (100 < ((sf s).nm.length : Int)) || (decide (100 < ((sf s).pre.length : Int)) || (decide (100 < ((sf s).tx.length : Int)) || decide (40 < deep)))
def cntX (C : List D → Int) (bad : D → Bool) (most : Int) : List D → Int → Option Int
  | [], n => some n
  | s :: r, n => if n ≤ most then (if bad s = true then none else cntX C bad most r (n + 1 + C (sf s).of_)) else some n
def cntP (C : List D → Int) (bad : D → Bool) (most : Int) : List D → Int → Option Int
  | [], n => some n
  | x :: r, n => if n ≤ most then (cntX C bad most (cpL x) n).bind (cntP C bad most r) else some n
def cntC (C : List D → Int) (bad : D → Bool) (most : Int) : List D → Int → Option Int
  | [], n => some n
  | c :: r, n => if n ≤ most then (cntP C bad most (cxL c) (n + (cxL c).length)).bind (cntC C bad most r) else some n
def cnt (most : Int) : Nat → List D → Int → Int
  | 0, _, _ => 0
  | f + 1, l, deep => (cntC (fun of_ => cnt most f of_ (deep + 1)) (badS deep) most l l.length).getD (most + 1)
section
variable {C : List D → Int} {bad : D → Bool} {most : Int}
theorem cntX_le (hC : ∀ l, 0 ≤ C l) : ∀ (l : List D) (n r : Int), cntX C bad most l n = some r → n ≤ r
  | [], n, r, h => by simp only [cntX, Option.some.injEq] at h; omega
  | s :: l, n, r, h => by
    unfold cntX at h
    split at h
    · split at h
      · cases h
      · have := cntX_le hC l _ _ h
        have := hC (sf s).of_
        omega
    · simp only [Option.some.injEq] at h; omega
theorem cntX_ok (hC : ∀ l, 0 ≤ C l) : ∀ (l : List D) (n r : Int), cntX C bad most l n = some r → r ≤ most → n + l.length ≤ r ∧ ∀ s ∈ l, bad s = false ∧ n + 1 + C (sf s).of_ ≤ most
  | [], n, r, h, hr => by
    simp only [cntX, Option.some.injEq] at h
    exact ⟨by simp; omega, fun s hs => by simp at hs⟩
  | s :: l, n, r, h, hr => by
    unfold cntX at h
    split at h
    · split at h
      · cases h
      · rename_i hb
        obtain ⟨h1, h2⟩ := cntX_ok hC l _ _ h hr
        have h3 := hC (sf s).of_
        have h4 := cntX_le hC l _ _ h
        refine ⟨by simp only [List.length_cons]; omega, fun t ht => ?_⟩
        rcases List.mem_cons.1 ht with rfl | ht
        · exact ⟨by simpa using hb, by omega⟩
        · obtain ⟨h5, h6⟩ := h2 t ht
          exact ⟨h5, by omega⟩
    · simp only [Option.some.injEq] at h; omega
theorem cntP_le (hC : ∀ l, 0 ≤ C l) : ∀ (l : List D) (n r : Int), cntP C bad most l n = some r → n ≤ r
  | [], n, r, h => by simp only [cntP, Option.some.injEq] at h; omega
  | x :: l, n, r, h => by
    unfold cntP at h
    split at h
    · obtain ⟨m, h1, h2⟩ := Option.bind_eq_some_iff.1 h
      have := cntX_le hC _ _ _ h1
      have := cntP_le hC l _ _ h2
      omega
    · simp only [Option.some.injEq] at h; omega
theorem cntP_ok (hC : ∀ l, 0 ≤ C l) : ∀ (l : List D) (n r : Int), 0 ≤ n → cntP C bad most l n = some r → r ≤ most → n ≤ r ∧ ∀ x ∈ l, ((cpL x).length : Int) ≤ most ∧ ∀ s ∈ cpL x, bad s = false ∧ C (sf s).of_ ≤ most
  | [], n, r, h0, h, hr => by
    simp only [cntP, Option.some.injEq] at h
    exact ⟨by omega, fun s hs => by simp at hs⟩
  | x :: l, n, r, h0, h, hr => by
    unfold cntP at h
    split at h
    · obtain ⟨m, h1, h2⟩ := Option.bind_eq_some_iff.1 h
      have h4 := cntP_le hC l _ _ h2
      obtain ⟨h5, h6⟩ := cntX_ok hC _ _ _ h1 (by omega)
      obtain ⟨h7, h8⟩ := cntP_ok hC l _ _ (by omega) h2 hr
      refine ⟨by omega, fun y hy => ?_⟩
      rcases List.mem_cons.1 hy with rfl | hy
      · refine ⟨by omega, fun s hs => ?_⟩
        obtain ⟨h9, h10⟩ := h6 s hs
        exact ⟨h9, by omega⟩
      · exact h8 y hy
    · simp only [Option.some.injEq] at h; omega
theorem cntC_le (hC : ∀ l, 0 ≤ C l) : ∀ (l : List D) (n r : Int), cntC C bad most l n = some r → n ≤ r
  | [], n, r, h => by simp only [cntC, Option.some.injEq] at h; omega
  | c :: l, n, r, h => by
    unfold cntC at h
    split at h
    · obtain ⟨m, h1, h2⟩ := Option.bind_eq_some_iff.1 h
      have := cntP_le hC _ _ _ h1
      have := cntC_le hC l _ _ h2
      omega
    · simp only [Option.some.injEq] at h; omega
theorem cntC_ok (hC : ∀ l, 0 ≤ C l) : ∀ (l : List D) (n r : Int), 0 ≤ n → cntC C bad most l n = some r → r ≤ most → n ≤ r ∧ ∀ c ∈ l, ((cxL c).length : Int) ≤ most ∧ ∀ x ∈ cxL c, ((cpL x).length : Int) ≤ most ∧ ∀ s ∈ cpL x, bad s = false ∧ C (sf s).of_ ≤ most
  | [], n, r, h0, h, hr => by
    simp only [cntC, Option.some.injEq] at h
    exact ⟨by omega, fun s hs => by simp at hs⟩
  | c :: l, n, r, h0, h, hr => by
    unfold cntC at h
    split at h
    · obtain ⟨m, h1, h2⟩ := Option.bind_eq_some_iff.1 h
      have h4 := cntC_le hC l _ _ h2
      obtain ⟨h5, h6⟩ := cntP_ok hC _ _ _ (by omega) h1 (by omega)
      obtain ⟨h7, h8⟩ := cntC_ok hC l _ _ (by omega) h2 hr
      refine ⟨by omega, fun y hy => ?_⟩
      rcases List.mem_cons.1 hy with rfl | hy
      · exact ⟨by omega, h6⟩
      · exact h8 y hy
    · simp only [Option.some.injEq] at h; omega
end
theorem cnt_nonneg {most : Int} (hm : 0 ≤ most) : ∀ (f : Nat) (l : List D) (deep : Int), 0 ≤ cnt most f l deep
  | 0, _, _ => Int.le_refl _
  | f + 1, l, deep => by
    unfold cnt
    cases h : cntC (fun of_ => cnt most f of_ (deep + 1)) (badS deep) most l l.length with
    | none => simp; omega
    | some r =>
      have := cntC_le (C := fun of_ => cnt most f of_ (deep + 1)) (fun l => cnt_nonneg hm f l _) _ _ _ h
      simp
      omega
theorem cnt_small {most : Int} (hm : 0 ≤ most) (hm2 : most ≤ 100) {m : Nat} : ∀ (f : Nat) (l : List D) (d g : Nat), d + g = 41 → lsOk m (smOk m f) l = true → cnt most (f + 1) l d ≤ most → lsOk 100 (smOk 100 g) l = true
  | f, l, d, g, hd, hk, hc => by
    unfold cnt at hc
    cases h : cntC (fun of_ => cnt most f of_ ((d : Int) + 1)) (badS d) most l l.length with
    | none => rw [h] at hc; simp at hc; omega
    | some r =>
      rw [h] at hc
      simp only [Option.getD_some] at hc
      obtain ⟨h1, h2⟩ := cntC_ok (C := fun of_ => cnt most f of_ ((d : Int) + 1)) (fun l => cnt_nonneg hm f l _) _ _ _ (by omega) h hc
      simp only [lsOk, lenB, Bool.and_eq_true, decide_eq_true_eq, List.all_eq_true] at hk ⊢
      refine ⟨by omega, fun c hcm => ?_⟩
      obtain ⟨xs, rfl, _, hxs⟩ := cxOk_inv (hk.2 c hcm)
      obtain ⟨h3, h4⟩ := h2 _ hcm
      simp only [cxD, cxL] at h3 h4
      simp only [cxOk, cxD, lenB, Bool.and_eq_true, decide_eq_true_eq, List.all_eq_true]
      refine ⟨by omega, fun x hx => ?_⟩
      obtain ⟨k, ss, rfl, _, hss⟩ := cpOk_inv (hxs x hx)
      obtain ⟨h5, h6⟩ := h4 _ hx
      simp only [cpD, cpL] at h5 h6
      simp only [cpOk, cpD, lenB, Bool.and_eq_true, decide_eq_true_eq, List.all_eq_true]
      refine ⟨by omega, fun s hs => ?_⟩
      obtain ⟨h7, h8⟩ := h6 s hs
      simp only [badS, Bool.or_eq_false_iff, decide_eq_false_iff_not] at h7
      obtain ⟨b1, b2, b3, b4⟩ := h7
      match f, hss s hs, h8 with
      | 0, hz, _ => simp [smOk] at hz
      | f + 1, hz, h8 =>
        obtain ⟨e, _, _, _, ho⟩ := smOk_inv hz
        match g, hd with
        | 0, hd => omega
        | g + 1, hd =>
          have h9 := cnt_small hm hm2 f (sf s).of_ (d + 1) g (by omega) ho (by simpa using h8)
          rw [e]
          simp only [smOk, Sf.d, Bool.and_eq_true, decide_eq_true_eq]
          exact ⟨⟨⟨by omega, by omega⟩, by omega⟩, h9⟩
end Go.Av
namespace Go.Av
def standsF (ns : List Nd) (f : Nat) (a b comb : Int) : Bool :=
  if comb = 2 then (parI ns b).2 && (parI ns b).1 == a
  else if comb = 1 then (upsI ns f b).any (· == a)
  else if comb = 3 then (ahdI ns b).2 && (ahdI ns b).1 == a
  else comb == 4 && (rowI ns b).dropLast.any (· == a)
def fitStep (S : D → Int → Bool) (ns : List Nd) (node : Nat) (first : Bool) (fit : List Int) (x : D) : List Int :=
  ((List.range (node + 1)).map (Int.ofNat ·)).filter fun k => kAt ns k.toNat == 1 && (cpL x).all (S · k) && (first || fit.any fun m => standsF ns (k.toNat + 1) m k (cpC x))
def fitAll (S : D → Int → Bool) (ns : List Nd) (node : Nat) : Bool → List Int → List D → List Int
  | _, fit, [] => fit
  | first, fit, x :: r => fitAll S ns node false (fitStep S ns node first fit x) r
def complexV (S : D → Int → Bool) (ns : List Nd) (c : D) (node : Int) (ps : List UInt8) : Bool :=
  elB ns node && (pseudoF c == ps && (!(cxL c).isEmpty && ((fitAll S ns node.toNat true [] (cxL c)).getLast? == some node)))
theorem fitAll_snoc (S : D → Int → Bool) (ns : List Nd) (node : Nat) : ∀ (l : List D) (first : Bool) (fit : List Int) (x : D),
    fitAll S ns node first fit (l ++ [x]) = fitStep S ns node (first && l.isEmpty) (fitAll S ns node first fit l) x
  | [], first, fit, x => by simp [fitAll]
  | y :: r, first, fit, x => by
    have h := fitAll_snoc S ns node r false (fitStep S ns node first fit y) x
    simp only [List.cons_append, fitAll, h, Bool.false_and, List.isEmpty_cons, Bool.and_false]
structure RightT (ns : List Nd) : Prop where
  par : ∀ n, elB ns n = true → (parI ns n).2 = true → elB ns (parI ns n).1 = true ∧ (parI ns n).1 < n
  ahd : ∀ n, elB ns n = true → (ahdI ns n).2 = true → elB ns (ahdI ns n).1 = true ∧ (ahdI ns n).1 < n
  row : ∀ n, elB ns n = true → ∀ a ∈ (rowI ns n).dropLast, elB ns a = true ∧ a < n
theorem ups_el {ns : List Nd} (h : RightT ns) : ∀ (f : Nat) (n : Int), elB ns n = true → ∀ a ∈ upsI ns f n, elB ns a = true ∧ a < n
  | 0, _, _, a, ha => by simp [upsI] at ha
  | f + 1, n, hn, a, ha => by
    unfold upsI at ha
    split at ha
    · rename_i hp
      obtain ⟨h1, h2⟩ := h.par n hn hp
      rcases List.mem_cons.1 ha with rfl | ha
      · exact ⟨h1, h2⟩
      · obtain ⟨h3, h4⟩ := ups_el h f _ h1 a ha
        exact ⟨h3, by omega⟩
    · simp at ha
theorem elB_nat {ns : List Nd} {n : Int} (h : elB ns n = true) : 0 ≤ n ∧ n < ns.length ∧ kAt ns n.toNat = 1 := by
  unfold elB at h
  simpa [Bool.and_eq_true] using h
theorem mem_range {node : Nat} {k : Int} : k ∈ (List.range (node + 1)).map (Int.ofNat ·) ↔ 0 ≤ k ∧ k ≤ node := by
  simp only [List.mem_map, List.mem_range]
  constructor
  · rintro ⟨i, hi, rfl⟩
    exact ⟨Int.natCast_nonneg _, by simp; omega⟩
  · rintro ⟨h0, h1⟩
    exact ⟨k.toNat, by omega, by simp; omega⟩
theorem fit_row {ns : List Nd} (hR : RightT ns) (S : D → Int → Bool) (node : Nat) (hnode : node < ns.length) : ∀ (l : List D), l ≠ [] → ∀ k : Int,
    k ∈ fitAll S ns node true [] l.reverse ↔ (0 ≤ k ∧ k ≤ node ∧ kAt ns k.toNat = 1 ∧ rowV S ns l k = true)
  | [], h, _ => absurd rfl h
  | x :: r, _, k => by
    rw [List.reverse_cons, fitAll_snoc, fitStep, List.mem_filter, mem_range]
    simp only [Bool.and_eq_true, beq_iff_eq, Bool.or_eq_true, Bool.true_and, List.isEmpty_reverse, rowV]
    constructor
    · rintro ⟨⟨h0, h1⟩, ⟨hk, hs⟩, ht⟩
      refine ⟨h0, h1, hk, hs, ?_⟩
      rcases ht with he | ht
      · exact .inl he
      · by_cases he : r = []
        · exact .inl (by simp [he])
        · right
          obtain ⟨m, hm, hst⟩ := List.any_eq_true.1 ht
          obtain ⟨_, _, _, hrv⟩ := (fit_row hR S node hnode r he m).1 hm
          unfold standsF at hst
          by_cases c2 : cpC x = 2
          · rw [if_pos c2] at hst ⊢
            simp only [Bool.and_eq_true, beq_iff_eq] at hst ⊢
            exact ⟨hst.1, by rw [hst.2]; exact hrv⟩
          rw [if_neg c2] at hst ⊢
          by_cases c3 : cpC x = 3
          · rw [if_neg (by omega), if_pos c3] at hst
            rw [if_pos c3]
            simp only [Bool.and_eq_true, beq_iff_eq] at hst ⊢
            exact ⟨hst.1, by rw [hst.2]; exact hrv⟩
          rw [if_neg c3]
          by_cases c1 : cpC x = 1
          · rw [if_pos c1] at hst ⊢
            obtain ⟨u, hu, hum⟩ := List.any_eq_true.1 hst
            exact List.any_eq_true.2 ⟨u, hu, by rw [beq_iff_eq.1 hum]; exact hrv⟩
          · rw [if_neg c1, if_neg c3] at hst
            simp only [Bool.and_eq_true, beq_iff_eq] at hst
            rw [if_neg c1, if_pos hst.1]
            obtain ⟨u, hu, hum⟩ := List.any_eq_true.1 hst.2
            exact List.any_eq_true.2 ⟨u, hu, by rw [beq_iff_eq.1 hum]; exact hrv⟩
    · rintro ⟨h0, h1, hk, hs, ht⟩
      refine ⟨⟨h0, h1⟩, ⟨hk, hs⟩, ?_⟩
      by_cases he : r = []
      · exact .inl (by simp [he])
      right
      have ht := ht.resolve_left (by simp [he])
      have hel : elB ns k = true := by
        unfold elB
        simp only [Bool.and_eq_true, decide_eq_true_eq, beq_iff_eq]
        exact ⟨h0, by omega, hk⟩
      have put : ∀ m : Int, elB ns m = true → m < k → rowV S ns r m = true → m ∈ fitAll S ns node true [] r.reverse := fun m hm hlt hv => by
        obtain ⟨a1, a2, a3⟩ := elB_nat hm
        exact (fit_row hR S node hnode r he m).2 ⟨a1, by omega, a3, hv⟩
      unfold standsF
      by_cases c2 : cpC x = 2
      · rw [if_pos c2] at ht
        simp only [Bool.and_eq_true] at ht
        obtain ⟨b1, b2⟩ := hR.par k hel ht.1
        exact List.any_eq_true.2 ⟨_, put _ b1 b2 ht.2, by rw [if_pos c2]; simp [ht.1]⟩
      rw [if_neg c2] at ht
      by_cases c3 : cpC x = 3
      · rw [if_pos c3] at ht
        simp only [Bool.and_eq_true] at ht
        obtain ⟨b1, b2⟩ := hR.ahd k hel ht.1
        exact List.any_eq_true.2 ⟨_, put _ b1 b2 ht.2, by rw [if_neg c2, if_neg (by omega), if_pos c3]; simp [ht.1]⟩
      rw [if_neg c3] at ht
      by_cases c1 : cpC x = 1
      · rw [if_pos c1] at ht
        obtain ⟨u, hu, hv⟩ := List.any_eq_true.1 ht
        obtain ⟨b1, b2⟩ := ups_el hR _ k hel u hu
        exact List.any_eq_true.2 ⟨u, put _ b1 b2 hv, by rw [if_neg c2, if_pos c1]; exact List.any_eq_true.2 ⟨u, hu, by simp⟩⟩
      rw [if_neg c1] at ht
      by_cases c4 : cpC x = 4
      · rw [if_pos c4] at ht
        obtain ⟨u, hu, hv⟩ := List.any_eq_true.1 ht
        obtain ⟨b1, b2⟩ := hR.row k hel u hu
        refine List.any_eq_true.2 ⟨u, put _ b1 b2 hv, ?_⟩
        rw [if_neg c2, if_neg c1, if_neg c3]
        simp only [c4, beq_self_eq_true, Bool.true_and]
        exact List.any_eq_true.2 ⟨u, hu, by simp⟩
      · rw [if_neg c4] at ht
        cases ht
end Go.Av
namespace Go.Av
def UpTo (ns ns' : List Nd) (B : Nat) : Prop := ∀ i : Nat, i ≤ B → ns[i]? = ns'[i]?
variable {ns ns' : List Nd} {B : Nat}
theorem UpTo.k (h : UpTo ns ns' B) {i : Nat} (hi : i ≤ B) : kAt ns i = kAt ns' i := by unfold kAt; rw [h i hi]
theorem UpTo.p (h : UpTo ns ns' B) {i : Nat} (hi : i ≤ B) : pAt ns i = pAt ns' i := by unfold pAt; rw [h i hi]
theorem kAt_in {ns : List Nd} {i : Nat} (h : kAt ns i = 1) : i < ns.length := by
  unfold kAt at h
  cases e : ns[i]? with
  | none => rw [e] at h; cases h
  | some x => exact (List.getElem?_eq_some_iff.1 e).1
theorem elB_k {ns : List Nd} {n : Int} : elB ns n = (decide (0 ≤ n) && kAt ns n.toNat == 1) := by
  unfold elB
  rw [Bool.eq_iff_iff]
  simp only [Bool.and_eq_true, decide_eq_true_eq, beq_iff_eq]
  constructor
  · rintro ⟨a, _, b⟩
    exact ⟨a, b⟩
  · rintro ⟨a, b⟩
    have := kAt_in b
    exact ⟨a, by omega, b⟩
theorem UpTo.el (h : UpTo ns ns' B) {n : Int} (hn : n ≤ B) : elB ns n = elB ns' n := by
  rw [elB_k, elB_k, h.k (by omega)]
theorem UpTo.rowL (h : UpTo ns ns' B) (key : Int) : ∀ (m : Nat), m ≤ B + 1 → rowL ns key m = Go.Av.rowL ns' key m
  | 0, _ => rfl
  | m + 1, hm => by
    unfold Go.Av.rowL
    rw [h.k (by omega), h.p (by omega), h.rowL key m (by omega)]
theorem UpTo.par (h : UpTo ns ns' B) {n : Int} (hn : n ≤ B) : parI ns n = parI ns' n := by
  unfold parI
  rw [h.el hn, h.p (by omega)]
theorem UpTo.ahd (h : UpTo ns ns' B) {n : Int} (hn : n ≤ B) : ahdI ns n = ahdI ns' n := by
  unfold ahdI
  rw [h.el hn, h.p (by omega), h.rowL _ _ (by omega)]
theorem UpTo.row (h : UpTo ns ns' B) {n : Int} (hn : n ≤ B) : rowI ns n = rowI ns' n := by
  unfold rowI
  rw [h.el hn, h.p (by omega), h.rowL _ _ (by omega)]
theorem UpTo.val (h : UpTo ns ns' B) {n : Int} (hn : n ≤ B) (sp nm : List UInt8) : valI ns n sp nm = valI ns' n sp nm := by
  unfold valI atsAt
  rw [h.el hn, h _ (by omega)]
theorem nodeI_at {ns : List Nd} {n : Int} : nodeI ns n = if 0 ≤ n then (ns[n.toNat]?).getD zeroN else zeroN := by
  unfold nodeI inB'
  by_cases h0 : 0 ≤ n
  · by_cases h1 : n < ns.length
    · simp only [h0, h1, decide_true, Bool.and_self, if_true, List.getD_eq_getElem?_getD]
    · rw [if_neg (by simp [h1]), if_pos h0, List.getElem?_eq_none (by omega)]
      rfl
  · rw [if_neg (by simp [h0]), if_neg h0]
theorem UpTo.node (h : UpTo ns ns' B) {n : Int} (hn : n ≤ B) : nodeI ns n = nodeI ns' n := by
  rw [nodeI_at, nodeI_at, h _ (by omega)]
theorem UpTo.ups (h : UpTo ns ns' B) (hR : RightT ns) : ∀ (f : Nat) {n : Int}, n ≤ B → elB ns n = true → upsI ns f n = upsI ns' f n
  | 0, _, _, _ => rfl
  | f + 1, n, hn, he => by
    unfold upsI
    rw [← h.par hn]
    split
    · rename_i hp
      obtain ⟨h1, h2⟩ := hR.par n he hp
      rw [h.ups hR f (by omega) h1]
    · rfl
theorem all_congr' {α : Type} {l : List α} {f g : α → Bool} (h : ∀ x ∈ l, f x = g x) : l.all f = l.all g := by
  induction l with
  | nil => rfl
  | cons x r ih => rw [List.all_cons, List.all_cons, h x (by simp), ih fun y hy => h y (by simp [hy])]
theorem any_congr' {α : Type} {l : List α} {f g : α → Bool} (h : ∀ x ∈ l, f x = g x) : l.any f = l.any g := by
  induction l with
  | nil => rfl
  | cons x r ih => rw [List.any_cons, List.any_cons, h x (by simp), ih fun y hy => h y (by simp [hy])]
theorem row_congr (h : UpTo ns ns' B) (hR : RightT ns) {S S' : D → Int → Bool} (hS : ∀ d (n : Int), n ≤ B → elB ns n = true → S d n = S' d n) : ∀ (l : List D) (n : Int), n ≤ B → elB ns n = true → rowV S ns l n = rowV S' ns' l n
  | [], _, _, _ => rfl
  | x :: r, n, hn, he => by
    have ih := row_congr h hR hS r
    unfold rowV
    rw [all_congr' (g := (S' · n)) fun d _ => hS d n hn he, ← h.par hn, ← h.ahd hn, ← h.row hn, ← h.ups hR _ hn he]
    have e1 : ((parI ns n).2 && rowV S ns r (parI ns n).1) = ((parI ns n).2 && rowV S' ns' r (parI ns n).1) := by
      cases hp : (parI ns n).2 with
      | false => rfl
      | true =>
        obtain ⟨h1, h2⟩ := hR.par n he hp
        rw [ih _ (by omega) h1]
    have e2 : ((ahdI ns n).2 && rowV S ns r (ahdI ns n).1) = ((ahdI ns n).2 && rowV S' ns' r (ahdI ns n).1) := by
      cases hp : (ahdI ns n).2 with
      | false => rfl
      | true =>
        obtain ⟨h1, h2⟩ := hR.ahd n he hp
        rw [ih _ (by omega) h1]
    have e3 : (upsI ns (n.toNat + 1) n).any (rowV S ns r) = (upsI ns (n.toNat + 1) n).any (rowV S' ns' r) := any_congr' fun a ha => by
      obtain ⟨h1, h2⟩ := ups_el hR _ n he a ha
      exact ih a (by omega) h1
    have e4 : (rowI ns n).dropLast.any (rowV S ns r) = (rowI ns n).dropLast.any (rowV S' ns' r) := any_congr' fun a ha => by
      obtain ⟨h1, h2⟩ := hR.row n he a ha
      exact ih a (by omega) h1
    rw [e1, e2, e3, e4]
theorem row_last {n : Int} (he : elB ns n = true) : ∀ a ∈ rowI ns n, a ∈ (rowI ns n).dropLast ∨ a = n := by
  obtain ⟨h0, _, hk⟩ := elB_nat he
  unfold rowI
  have hs : rowL ns (pAt ns n.toNat) (n.toNat + 1) = rowL ns (pAt ns n.toNat) n.toNat ++ [(n.toNat : Int)] := by rw [rowL, if_pos ⟨hk, rfl⟩]
  rw [if_pos he, hs]
  intro a ha
  rw [List.dropLast_concat]
  rcases List.mem_append.1 ha with h | h
  · exact .inl h
  · right
    have := List.mem_singleton.1 h
    omega
end Go.Av
namespace Go.Av
theorem last_filter {p : Int → Bool} {m : Nat} : (((List.range (m + 1)).map (Int.ofNat ·)).filter p).getLast? = some (m : Int) ↔ p m = true := by
  rw [List.range_succ, List.map_append, List.filter_append]
  by_cases h : p m = true
  · have e : (List.map (Int.ofNat ·) [m]).filter p = [(m : Int)] := by simp [h]
    rw [e, List.getLast?_concat]
    simp [h]
  · have e : (List.map (Int.ofNat ·) [m]).filter p = [] := by simp [h]
    rw [e, List.append_nil]
    constructor
    · intro hl
      have hm := List.mem_of_getLast? hl
      obtain ⟨h1, h2⟩ := List.mem_filter.1 hm
      exact h2
    · intro h'
      exact absurd h' h
theorem complex_row {ns : List Nd} (hR : RightT ns) (S : D → Int → Bool) (c : D) (n : Int) (ps : List UInt8) : complexV S ns c n ps = (elB ns n && (pseudoF c == ps && rowV S ns (cxL c).reverse n)) := by
  unfold complexV
  cases he : elB ns n with
  | false => rfl
  | true =>
    obtain ⟨h0, h1, hk⟩ := elB_nat he
    simp only [Bool.true_and]
    congr 1
    cases hc : cxL c with
    | nil => simp [rowV]
    | cons y r =>
      have hne : (y :: r).reverse ≠ [] := by simp
      have key := fit_row hR S n.toNat (by omega) (y :: r).reverse hne n
      rw [List.reverse_reverse] at key
      have hlast : ∀ l : List D, l ≠ [] → ((fitAll S ns n.toNat true [] l).getLast? = some n ↔ n ∈ fitAll S ns n.toNat true [] l) := by
        intro l hl
        obtain ⟨l', x, rfl⟩ : ∃ l' x, l = l' ++ [x] := ⟨l.dropLast, l.getLast hl, (List.dropLast_concat_getLast hl).symm⟩
        rw [fitAll_snoc, fitStep]
        have hn : ((n.toNat : Nat) : Int) = n := by omega
        have := @last_filter (fun k => kAt ns k.toNat == 1 && (cpL x).all (S · k) && (true && l'.isEmpty || (fitAll S ns n.toNat true [] l').any fun m => standsF ns (k.toNat + 1) m k (cpC x))) n.toNat
        rw [hn] at this
        rw [this, List.mem_filter, mem_range]
        constructor
        · intro h
          exact ⟨⟨h0, by omega⟩, h⟩
        · intro h
          exact h.2
      rw [Bool.eq_iff_iff]
      simp only [List.isEmpty_cons, Bool.not_false, Bool.true_and, beq_iff_eq]
      rw [hlast _ (by simp), key]
      constructor
      · intro h
        exact h.2.2.2
      · intro h
        exact ⟨h0, by omega, hk, h⟩
def rlistV (S : D → Int → Bool) (ns : List Nd) (l : List D) (n : Int) (ps : List UInt8) : Bool := l.any fun c => complexV S ns c n ps
def nthGo (W : Int → Bool) : List Int → Nat → Bool → Nat × Bool
  | [], p, b => (p, b)
  | x :: r, p, _ => nthGo W r (if W x = true then p + 1 else p) (W x)
theorem nthGo_snoc (W : Int → Bool) : ∀ (l : List Int) (x : Int) (p : Nat) (b : Bool), nthGo W (l ++ [x]) p b = (p + (l ++ [x]).countP W, W x)
  | [], x, p, b => by
    simp only [List.nil_append, nthGo, List.countP_cons, List.countP_nil]
    split <;> simp_all
  | y :: r, x, p, b => by
    simp only [List.cons_append, nthGo, nthGo_snoc W r x, List.countP_cons]
    split <;> simp_all <;> omega
theorem rlist_eq {ns : List Nd} (hR : RightT ns) {S S' : D → Int → Bool} (hS : ∀ d (n : Int), n ≤ ns.length → elB ns n = true → S d n = S' d n) (l : List D) (n : Int) (he : elB ns n = true) : rlistV S ns l n [] = listV S' ns l n := by
  obtain ⟨h0, h1, hk⟩ := elB_nat he
  unfold rlistV listV
  refine any_congr' fun c _ => ?_
  rw [complex_row hR, he, Bool.true_and, row_congr (B := ns.length) (fun _ _ => rfl) hR hS _ n (by omega) he]
end Go.Av
namespace Go.Av
theorem rowL_mem {ns : List Nd} {key : Int} : ∀ {m : Nat} {a : Int}, a ∈ rowL ns key m → 0 ≤ a ∧ a < m ∧ kAt ns a.toNat = 1
  | 0, a, h => by simp [rowL] at h
  | m + 1, a, h => by
    rw [rowL] at h
    split at h
    · rename_i hk
      rcases List.mem_append.1 h with h | h
      · obtain ⟨h1, h2, h3⟩ := rowL_mem h
        exact ⟨h1, by omega, h3⟩
      · obtain rfl := List.mem_singleton.1 h
        exact ⟨by omega, by omega, by simpa using hk.1⟩
    · obtain ⟨h1, h2, h3⟩ := rowL_mem h
      exact ⟨h1, by omega, h3⟩
theorem right_of {ns : List Nd} (h : ∀ (j : Nat) (n : Nd), ns[j]? = some n → -1 ≤ n.p ∧ n.p < (ns.take j).length ∧ (0 ≤ n.p → kindAt (ns.take j) n.p = 1)) : RightT ns := by
  refine ⟨fun n he hp => ?_, fun n he hp => ?_, fun n he a ha => ?_⟩
  · obtain ⟨h0, h1, hk⟩ := elB_nat he
    have hx : ns[n.toNat]? = some ns[n.toNat] := List.getElem?_eq_getElem (by omega)
    obtain ⟨a1, a2, a3⟩ := h _ _ hx
    have hpp : pAt ns n.toNat = (ns[n.toNat]'(by omega)).p := by unfold pAt; rw [hx]
    unfold parI at hp ⊢
    split at hp
    · rename_i hc
      rw [if_pos hc]
      rw [hpp] at hc ⊢
      have a4 := a3 hc.2
      rw [List.length_take] at a2
      refine ⟨?_, by omega⟩
      rw [elB_k]
      simp only [hc.2, decide_true, Bool.true_and, beq_iff_eq]
      unfold kindAt at a4
      unfold kAt
      rw [List.getElem?_take_of_lt (by omega)] at a4
      exact a4
    · cases hp
  · obtain ⟨h0, h1, hk⟩ := elB_nat he
    unfold ahdI at hp ⊢
    rw [if_pos he] at hp ⊢
    split at hp
    · rename_i a ha
      obtain ⟨b1, b2, b3⟩ := rowL_mem (List.mem_of_getLast? ha)
      exact ⟨by rw [elB_k]; simp [b1, b3], by show a < n; omega⟩
    · cases hp
  · obtain ⟨h0, h1, hk⟩ := elB_nat he
    unfold rowI at ha
    have hs : rowL ns (pAt ns n.toNat) (n.toNat + 1) = rowL ns (pAt ns n.toNat) n.toNat ++ [(n.toNat : Int)] := by rw [rowL, if_pos ⟨hk, rfl⟩]
    rw [if_pos he, hs, List.dropLast_concat] at ha
    obtain ⟨b1, b2, b3⟩ := rowL_mem ha
    exact ⟨by rw [elB_k]; simp [b1, b3], by omega⟩
end Go.Av
namespace Go.Av
theorem rowV_eq {S S' : D → Int → Bool} {ns : List Nd} : ∀ (l : List D), (∀ x ∈ l, ∀ s ∈ cpL x, ∀ n, S s n = S' s n) → ∀ n, rowV S ns l n = rowV S' ns l n
  | [], _, _ => rfl
  | x :: r, h, n => by
    have ih := rowV_eq (ns := ns) r (fun y hy => h y (List.mem_cons_of_mem _ hy))
    have hf : rowV S ns r = rowV S' ns r := funext ih
    have ha : (cpL x).all (S · n) = (cpL x).all (S' · n) := all_congr' fun s hs => h x (List.mem_cons_self ..) s hs n
    simp only [rowV, ha, hf]
theorem listV_eq {S S' : D → Int → Bool} {ns : List Nd} {l : List D} (h : ∀ c ∈ l, ∀ x ∈ cxL c, ∀ s ∈ cpL x, ∀ n, S s n = S' s n) (n : Int) : listV S ns l n = listV S' ns l n := by
  unfold listV
  refine any_congr' fun c hc => ?_
  rw [rowV_eq (cxL c).reverse (fun x hx => h c hc x (List.mem_reverse.1 hx))]
theorem lsOk_mem {m : Nat} {S : D → Bool} {l : List D} (h : lsOk m S l = true) : l.length ≤ m ∧ ∀ c ∈ l, cxOk m S c = true := by
  unfold lsOk lenB at h
  simpa [List.all_eq_true] using h
theorem lsOk_s {m : Nat} {S : D → Bool} {l : List D} (h : lsOk m S l = true) : ∀ c ∈ l, ∀ x ∈ cxL c, ∀ s ∈ cpL x, S s = true := by
  intro c hc x hx s hs
  obtain ⟨l1, rfl, _, h1⟩ := cxOk_inv ((lsOk_mem h).2 c hc)
  obtain ⟨k, l2, rfl, _, h2⟩ := cpOk_inv (h1 x hx)
  exact h2 s hs
theorem sm_fuel {ns : List Nd} {nm : Nam} {m : Nat} : ∀ (k : Nat) (d : D), smOk m k d = true → ∀ (j : Nat), k ≤ j → ∀ n, simpleV ns nm j d n = simpleV ns nm k d n
  | 0, d, h, _, _, _ => by simp [smOk] at h
  | k + 1, d, h, 0, hj, _ => absurd hj (by omega)
  | k + 1, d, h, j + 1, hj, n => by
    obtain ⟨_, _, _, _, hl⟩ := smOk_inv h
    have hL : listV (simpleV ns nm j) ns (sf d).of_ = listV (simpleV ns nm k) ns (sf d).of_ := funext fun n => listV_eq (fun c hc x hx s hs n => sm_fuel k s (lsOk_s hl c hc x hx s hs) j (by omega) n) n
    simp only [simpleV, hL]
theorem smOk_up {m : Nat} : ∀ (k : Nat) (d : D), smOk m k d = true → ∀ j, k ≤ j → smOk m j d = true
  | 0, d, h, _, _ => by simp [smOk] at h
  | k + 1, d, h, 0, hj => absurd hj (by omega)
  | k + 1, d, h, j + 1, hj => by
    obtain ⟨e, h1, h2, h3, h4⟩ := smOk_inv h
    rw [e]
    show (decide ((sf d).pre.length ≤ m) && decide ((sf d).nm.length ≤ m) && decide ((sf d).tx.length ≤ m) && lsOk m (smOk m j) (sf d).of_) = true
    simp only [Bool.and_eq_true, decide_eq_true_eq]
    refine ⟨⟨⟨h1, h2⟩, h3⟩, ?_⟩
    obtain ⟨g1, g2⟩ := lsOk_mem h4
    simp only [lsOk, lenB, Bool.and_eq_true, decide_eq_true_eq, List.all_eq_true]
    refine ⟨g1, fun c hc => ?_⟩
    obtain ⟨l1, rfl, f1, f2⟩ := cxOk_inv (g2 c hc)
    simp only [cxD, cxOk, lenB, Bool.and_eq_true, decide_eq_true_eq, List.all_eq_true]
    refine ⟨f1, fun x hx => ?_⟩
    obtain ⟨y, l2, rfl, f3, f4⟩ := cpOk_inv (f2 x hx)
    simp only [cpD, cpOk, lenB, Bool.and_eq_true, decide_eq_true_eq, List.all_eq_true]
    exact ⟨f3, fun s hs => smOk_up k s (f4 s hs) j (by omega)⟩
def sV (ns : List Nd) (nm : Nam) : D → Int → Bool := simpleV ns nm 50
def stepV (ns : List Nd) (nm : Nam) (L : List D → Int → Bool) (d : D) (n : Int) : Bool :=
  let s := sf d
  let x := nodeI ns n
  if s.kd = 1 then x.nm == s.nm && inPlF nm s.ns s.pre x.sp false
  else if s.kd = 2 then inPlF nm s.ns s.pre x.sp false
  else if s.kd = 3 then plainV ns n sClass 3 s.nm
  else if s.kd = 4 then plainV ns n sId 2 s.nm
  else if s.kd = 5 then x.at_.any fun a => a.nm == s.nm && (inPlF nm s.ns s.pre a.sp true && holdsF s.op s.tx s.fold a.vl)
  else if s.kd = 6 then !(parI ns n).2
  else if s.kd = 7 then nthV (fun j => s.of_.isEmpty || L s.of_ j) ns s.a s.b n
  else if s.kd = 8 ∨ s.kd = 9 then L s.of_ n
  else if s.kd = 10 then !L s.of_ n
  else if s.kd = 11 then staI ns n s.nm
  else if s.kd = 12 then (x.nm == [97] || x.nm == sArea) && (inPlF nm 0 [] x.sp false && plainV ns n sHref 1 [])
  else s.kd == 13
theorem sV_step {ns : List Nd} {nm : Nam} {m k : Nat} {d : D} (h : smOk m (k + 1) d = true) (hk : k + 1 ≤ 50) (n : Int) : sV ns nm d n = stepV ns nm (listV (sV ns nm) ns) d n := by
  have h1 : sV ns nm d n = simpleV ns nm (k + 1) d n := sm_fuel (k + 1) d h 50 hk n
  rw [h1]
  obtain ⟨_, _, _, _, hl⟩ := smOk_inv h
  have hL : listV (simpleV ns nm k) ns (sf d).of_ = listV (sV ns nm) ns (sf d).of_ := funext fun n => listV_eq (fun c hc x hx s hs n => (sm_fuel k s (lsOk_s hl c hc x hx s hs) 50 (by omega) n).symm) n
  simp only [simpleV, stepV, hL]
end Go.Av
namespace Go.Av
open Go.Proofs
variable [Rk] {chk : List D → Bool}
theorem wrapL {n : Nat} (h : n ≤ 1000000) (h0 : n ≠ 0) : IntKind.i64.wrap ((n : Int) - 1) = ((n - 1 : Nat) : Int) := by
  rw [wrap64 _ (by omega) (by omega)]; omega
theorem last_getD {l : List D} {x : D} (h : l.getLast? = some x) : l.getD (l.length - 1) .bad = x ∧ l.length ≠ 0 := by
  rw [List.getLast?_eq_getElem?] at h
  refine ⟨by simp [List.getD, h], ?_⟩
  have := (List.getElem?_eq_some_iff.1 h).1
  omega
theorem ne0 {n : Nat} (h : n ≠ 0) : ((n : Int) == 0) = false := by
  rw [beq_eq_false_iff_ne]; omega
theorem eqI {a b : Int} (h : a = b) : (a == b) = true ∧ (a != b) = false ∧ decide (a = b) = true := by simp [h]
theorem neI {a b : Int} (h : ¬ a = b) : (a == b) = false ∧ (a != b) = true ∧ decide (a = b) = false := by simp [h]
end Go.Av
namespace Go.Av
open Go.Proofs
variable [Rk] {chk : List D → Bool}
def atF (s : List UInt8) (k : Nat) (t : List UInt8) : Bool := decide (k + t.length ≤ s.length) && ((s.take (k + t.length)).drop k == t)
set_option maxHeartbeats 1000000 in
theorem at_L (s t : List UInt8) (k : Nat) (hs : s.length < 1000000000) (ht : t.length < 1000000000) (hk : k < 2000000000) : callL Tryz.prog (ext11b chk) 71 [.str s, .int .i64 k, .str t] [] = some (.bool (atF s k t), [.no], []) := by
  refine cK 29 6 Tryz.func71 ?_
  unfold atF
  have hw : IntKind.i64.wrap ((k : Int) + t.length) = ((k + t.length : Nat) : Int) := by rw [wrap64 _ (by omega) (by omega)]; omega
  have hkk : (k : Int) ≤ ((k + t.length : Nat) : Int) := by omega
  by_cases h : k + t.length ≤ s.length
  · have h' : ((k + t.length : Nat) : Int) ≤ s.length := by omega
    exact Wy
  · have h' : ¬ ((k + t.length : Nat) : Int) ≤ s.length := by omega
    exact Wy
theorem at_neg (s t : List UInt8) (n : Int) (hn : n < 0) : callL Tryz.prog (ext11b chk) 71 [.str s, .int .i64 n, .str t] [] = some (.bool false, [.no], []) := by
  refine cK 29 6 Tryz.func71 ?_
  have h' : ¬ 0 ≤ n := by omega
  exact Wy
def rmL (ls : List (List UInt8)) : List Room := if ls = [] then [.full] else [.own 9]
theorem blank_nat (x : UInt8) : blankB x = decide (x.toNat = 32 ∨ x.toNat = 9 ∨ x.toNat = 10 ∨ x.toNat = 13 ∨ x.toNat = 12) := by
  have key : ∀ n : Nat, n < 256 → (x == UInt8.ofNat n) = decide (x.toNat = n) := fun n hn => by
    rw [Bool.eq_iff_iff, beq_iff_eq, decide_eq_true_eq, ← UInt8.toNat_inj, UInt8.toNat_ofNat']
    omega
  unfold blankB
  have k1 := key 32 (by decide); have k2 := key 9 (by decide); have k3 := key 10 (by decide); have k4 := key 13 (by decide); have k5 := key 12 (by decide)
  rw [show (x == 32) = _ from k1, show (x == 9) = _ from k2, show (x == 10) = _ from k3, show (x == 13) = _ from k4, show (x == 12) = _ from k5]
  simp only [Bool.decide_or]
  simp only [Bool.or_assoc]
theorem szOk_strs (ls : List (List UInt8)) : szOk 1 (ls.map .str) = true := by cases ls <;> rfl
set_option maxHeartbeats 4000000 in
theorem rnames_L (l : List UInt8) (hl : l.length < 900000000) : callL Tryz.prog (ext11b chk) 73 [.str l] [] = some (.list ((partsB l []).map .str), [room1 (rmL (partsB l []))], []) := by
  refine cK 55 2 Tryz.func73 ?_
  refine Gy ?_
  refine loopH (fun s => ∃ (i : Nat) (acc : List (List UInt8)) (p : List UInt8), s.slot 5 = .int .i64 i ∧ s.slot 0 = .str l ∧ s.slot 3 = .list (acc.map .str) ∧ s.room 3 = rmL acc ∧ s.slot 4 = .str p ∧ p.length ≤ i ∧ acc.length ≤ i ∧
    ((i ≤ l.length ∧ acc ++ partsB (l.drop i) p = partsB l []) ∨ (i = l.length + 1 ∧ acc = partsB l []))) (fun s => l.length + 1 - slotI s 5) ?_ ?_
  · exact ⟨0, [], [], Iy, Iy, Iy, Iy, Iy, Nat.le_refl _, Nat.le_refl _, .inl ⟨Nat.zero_le _, rfl⟩⟩
  · rintro s K ⟨i, acc, p, h5, h0, h3, hrm, h4, hp, hacc, hinv⟩ hn hx hr
    rcases hinv with ⟨hi, hinv⟩ | ⟨hi, hinv⟩
    · have hi' : (i : Int) ≤ l.length := by omega
      have hw1 : IntKind.i64.wrap ((i : Int) + 1) = ((i + 1 : Nat) : Int) := by rw [wrap64 _ (by omega) (by omega)]; omega
      have hfit : (acc.map D.str).length + 1 ≤ 1073741824 := by simp; omega
      have hsz := szOk_strs acc
      have hroom : rmL acc = [.full] ∨ rmL acc = [.own 9] ∨ rmL acc = [.fresh] := by
        unfold rmL
        split
        · exact .inl rfl
        · exact .inr (.inl rfl)
      have hrr : ((rmL acc = [Room.full]) ∨ (rmL acc = [Room.own 9]) ∨ (rmL acc = [Room.fresh])) = True := eq_true hroom
      have hnr : rmL (acc ++ [p]) = [.own 9] := by simp [rmL]
      have hap : acc.map D.str ++ [.str p] = (acc ++ [p]).map D.str := by simp
      have hinv' := Hd.mk hinv
      have hp' := Hd.mk hp
      have hacc' := Hd.mk hacc
      clear hroom hinv hp hacc
      by_cases hlt : i < l.length
      · obtain ⟨x, hxl, hxd⟩ := at_get hlt
        have hlt' : (i : Int) < l.length := by omega
        have hne : ((i : Int) == l.length) = false := by simp; omega
        have hle1 : ((i + 1 : Nat) : Int) ≤ l.length := by omega
        have hle2 : (i : Int) ≤ ((i + 1 : Nat) : Int) := by omega
        have hsl : (l.take (i + 1)).drop i = [x] := by
          rw [List.take_add_one, hxl, List.drop_append, List.length_take, Nat.min_eq_left (by omega)]
          simp
        have hadd : p.length + 1 ≤ 1099511627776 := by have : p.length ≤ i := hp'; omega
        have hbn := Hd.mk (blank_nat x)
        have hdr : l.drop i = x :: l.drop (i + 1) := by
          rw [List.drop_eq_getElem_cons hlt]
          congr 1
          rw [List.getElem?_eq_getElem hlt] at hxl
          exact Option.some.inj hxl
        have hdr' := Hd.mk hdr
        have hdrop : l.drop i = x :: l.drop (i + 1) := hdr
        have hdd := Hd.mk hdrop
        clear hdr
        have hbA : Hd ((x.toNat = 32 ∨ (9 ≤ x.toNat ∧ x.toNat ≤ 13 ∧ x.toNat ≠ 11)) → blankB x = true) := fun h => by
          rw [blank_nat, decide_eq_true_eq]; omega
        have hbC : Hd (¬ (x.toNat = 32 ∨ (9 ≤ x.toNat ∧ x.toNat ≤ 13 ∧ x.toNat ≠ 11)) → blankB x = false) := fun h => by
          rw [blank_nat, decide_eq_false_iff_not]; omega
        have hpC : Hd (blankB x = false → acc ++ partsB (l.drop (i + 1)) (p ++ [x]) = partsB l []) := fun h => by
          have h1 : acc ++ partsB (l.drop i) p = partsB l [] := hinv'
          rw [show l.drop i = _ from hdr', partsB, h] at h1
          simpa using h1
        clear hbn hdr'
        cases hpe : (p == []) with
        | true =>
          have hp0 : p = [] := by simpa using hpe
          have hpA : Hd (blankB x = true → acc ++ partsB (l.drop (i + 1)) [] = partsB l []) := fun h => by
            have h1 : acc ++ partsB (l.drop i) p = partsB l [] := hinv'
            rw [hdrop, partsB, h, hp0] at h1
            simpa using h1
          clear hp0 hdrop
          repeat' (first|simp only [*, AVB, AVY, ↓reduceIte, Nat.reduceEqDiff, Nat.reduceLT, reduceCtorEq, Nat.reduceBEq, dIntBin]|refine gw_intro (fun h => ?_) (fun h => ?_) <;> try simp only [AVH] at h)
          all_goals
            first
            | (have hb : blankB x = true := hbA (by simp only [beq_eq_false_iff_ne, beq_iff_eq, bne_iff_ne, ne_eq, bne_eq_false_iff_eq] at *; omega)
               refine hn _ ⟨i + 1, acc, [], ?_, ?_, ?_, ?_, ?_, Nat.zero_le _, ?_, .inl ⟨hlt, hpA hb⟩⟩ ?_
               ·exact L
               ·exact L
               ·exact L
               ·exact L
               ·exact L
               · have : acc.length ≤ i := hacc'
                 omega
               · simp only [slotI, *, AVB, ↓reduceIte]
                 omega)
            | (have hb : blankB x = false := hbC (by simp only [beq_eq_false_iff_ne, beq_iff_eq, ne_eq, bne_eq_false_iff_eq] at *; omega)
               refine hn _ ⟨i + 1, acc, p ++ [x], ?_, ?_, ?_, ?_, ?_, ?_, ?_, .inl ⟨hlt, hpC hb⟩⟩ ?_
               ·exact L
               ·exact L
               ·exact L
               ·exact L
               ·exact L
               · have : p.length ≤ i := hp'
                 simp
                 omega
               · have : acc.length ≤ i := hacc'
                 omega
               · simp only [slotI, *, AVB, ↓reduceIte]
                 omega)
        | false =>
          have hp0 : p ≠ [] := by simpa using hpe
          have hpA : Hd (blankB x = true → (acc ++ [p]) ++ partsB (l.drop (i + 1)) [] = partsB l []) := fun h => by
            have h1 : acc ++ partsB (l.drop i) p = partsB l [] := hinv'
            rw [hdrop, partsB, h, if_neg hp0] at h1
            simpa using h1
          clear hp0 hdrop
          repeat' (first|simp only [*, AVB, AVY, ↓reduceIte, Nat.reduceEqDiff, Nat.reduceLT, reduceCtorEq, Nat.reduceBEq, dIntBin]|refine gw_intro (fun h => ?_) (fun h => ?_) <;> try simp only [AVH] at h)
          all_goals
            first
            | (have hb : blankB x = true := hbA (by simp only [beq_eq_false_iff_ne, beq_iff_eq, bne_iff_ne, ne_eq, bne_eq_false_iff_eq] at *; omega)
               refine hn _ ⟨i + 1, acc ++ [p], [], ?_, ?_, ?_, ?_, ?_, Nat.zero_le _, ?_, .inl ⟨hlt, hpA hb⟩⟩ ?_
               ·exact L
               ·exact L
               ·exact L
               ·exact L
               ·exact L
               · have : acc.length ≤ i := hacc'
                 simp; omega
               · simp only [slotI, *, AVB, ↓reduceIte]
                 omega)
            | (have hb : blankB x = false := hbC (by simp only [beq_eq_false_iff_ne, ne_eq, bne_eq_false_iff_eq] at *; omega)
               refine hn _ ⟨i + 1, acc, p ++ [x], ?_, ?_, ?_, ?_, ?_, ?_, ?_, .inl ⟨hlt, hpC hb⟩⟩ ?_
               ·exact L
               ·exact L
               ·exact L
               ·exact L
               ·exact L
               · have : p.length ≤ i := hp'
                 simp
                 omega
               · have : acc.length ≤ i := hacc'
                 omega
               · simp only [slotI, *, AVB, ↓reduceIte]
                 omega)
      · have hil : i = l.length := by omega
        subst hil
        have heq : ((l.length : Int) == l.length) = true := by simp
        have h1 : acc ++ partsB [] p = partsB l [] := by
          have : acc ++ partsB (l.drop l.length) p = partsB l [] := hinv'
          rwa [List.drop_length] at this
        cases hpe : (p == []) with
        | true =>
          have hp0 : p = [] := by simpa using hpe
          have h2 : Hd (acc = partsB l []) := by
            rw [hp0] at h1
            show acc = partsB l []
            simpa [partsB] using h1
          clear hp0 h1
          refine Gy ?_
          refine hn _ ⟨l.length + 1, acc, [], ?_, ?_, ?_, ?_, ?_, Nat.zero_le _, ?_, .inr ⟨rfl, h2⟩⟩ ?_
          ·exact L
          ·exact L
          ·exact L
          ·exact L
          ·exact L
          · have : acc.length ≤ l.length := hacc'
            omega
          ·exact Zy
        | false =>
          have hp0 : p ≠ [] := by simpa using hpe
          have h2 : Hd (acc ++ [p] = partsB l []) := by
            rw [partsB, if_neg hp0] at h1
            exact h1
          clear hp0 h1
          refine Gy ?_
          refine hn _ ⟨l.length + 1, acc ++ [p], [], ?_, ?_, ?_, ?_, ?_, Nat.zero_le _, ?_, .inr ⟨rfl, h2⟩⟩ ?_
          ·exact L
          ·exact L
          ·exact L
          ·exact L
          ·exact L
          · have : acc.length ≤ l.length := hacc'
            simp
            omega
          ·exact Zy
    · subst hi
      have hi' : ¬ ((l.length + 1 : Nat) : Int) ≤ l.length := by omega
      have hinv' := Hd.mk hinv
      clear hinv
      refine Gy ?_
      refine hx 0 _ ?_
      rw [show acc = _ from hinv'] at h3 hrm
      refine Gy ?_
      have hroom : rmL (partsB l []) = [.full] ∨ rmL (partsB l []) = [.own 9] := by
        unfold rmL
        split
        · exact .inl rfl
        · exact .inr rfl
      rcases hroom with e | e <;> rw [e] <;> rfl
end Go.Av
namespace Go.Av
open Go.Proofs
variable [Rk] {chk : List D → Bool}
def rholdF (op : Int) (t v : List UInt8) : Bool :=
  if op = 1 then true else if op = 2 then t == v else if op = 4 then (t == v || atF v 0 (t ++ [45])) else if (t == []) = true then false else
  if op = 5 then atF v 0 t else if op = 6 then (decide (t.length ≤ v.length) && atF v (v.length - t.length) t) else
  if op = 3 then (!t.any blankB && (partsB v []).any (· == t)) else if op = 7 then (List.range v.length).any (atF v · t) else false
set_option maxHeartbeats 2000000 in
theorem rholdsO_L (op : Int) (t : List UInt8) (fold : Bool) (v : List UInt8) (ht : t.length < 400000000) (hv : v.length < 400000000) (h3 : (op == 3) = false) (h7 : (op == 7) = false) :
    callL Tryz.prog (ext11b chk) 53 [condD op t fold, .str v] [] = some (.bool (rholdF op (lowC1 fold t) (lowC1 fold v)), [.no], []) := by
  unfold condD
  have hv' : (lowC1 fold v).length < 400000000 := by rw [lowC1_len]; exact hv
  have ht' : (lowC1 fold t).length < 400000000 := by rw [lowC1_len]; exact ht
  obtain ⟨r1, hl1⟩ := rlower_L (chk := chk) t (by omega)
  obtain ⟨r2, hl2⟩ := rlower_L (chk := chk) v (by omega)
  have f3 : ¬ op = 3 := by simpa using h3
  have f7 : ¬ op = 7 := by simpa using h7
  have key : ∀ t' v' : List UInt8, t'.length < 400000000 → v'.length < 400000000 →
      (callL Tryz.prog (ext11b chk) 71 [.str v', .int .i64 0, .str (t' ++ [45])] [] = some (.bool (atF v' 0 (t' ++ [45])), [.no], [])) ∧ (callL Tryz.prog (ext11b chk) 71 [.str v', .int .i64 0, .str t'] [] = some (.bool (atF v' 0 t'), [.no], [])) ∧
      callL Tryz.prog (ext11b chk) 71 [.str v', .int .i64 (IntKind.i64.wrap ((v'.length : Int) - t'.length)), .str t'] [] = some (.bool (decide (t'.length ≤ v'.length) && atF v' (v'.length - t'.length) t'), [.no], []) ∧ t'.length + 1 ≤ 1099511627776 := by
    intro t' v' h1 h2
    refine ⟨at_L v' (t' ++ [45]) 0 (by omega) (by simp; omega) (by omega), at_L v' t' 0 (by omega) (by omega) (by omega), ?_, by omega⟩
    rw [wrap64 _ (by omega) (by omega)]
    by_cases h : t'.length ≤ v'.length
    · rw [show (v'.length : Int) - t'.length = ((v'.length - t'.length : Nat) : Int) from by omega, at_L v' t' _ (by omega) (by omega) (by omega), decide_eq_true h]
      rfl
    · rw [at_neg v' t' _ (by omega), decide_eq_false h]
      rfl
  unfold rholdF
  cases fold with
  | false =>
    obtain ⟨k1, k2, k3, k4⟩ := key t v ht hv
    refine cK 102 4 Tryz.func53 ?_
    simp only [lowC1]
    repeat' (first|simp only [*, AVB, AVY, ↓reduceIte, Nat.reduceEqDiff, Nat.reduceLT, Nat.reduceLeDiff, reduceCtorEq, Nat.reduceBEq, String.reduceBEq, Nat.reduceAdd, Nat.reduceSub, Nat.reduceMul, Int.reduceLE, Int.reduceLT, Int.reduceToNat, Int.reduceBEq, Int.reduceBNe, List.zipWith, dIntBin]|refine gw_intro (fun h => ?_) (fun h => ?_) <;> try simp only [AVH] at h)
    all_goals try (simp_all; done)
  | true =>
    obtain ⟨k1, k2, k3, k4⟩ := key (lowB t) (lowB v) ht' hv'
    refine cK 102 4 Tryz.func53 ?_
    simp only [lowC1, if_true]
    repeat' (first|simp only [*, AVB, AVY, ↓reduceIte, Nat.reduceEqDiff, Nat.reduceLT, Nat.reduceLeDiff, reduceCtorEq, Nat.reduceBEq, String.reduceBEq, Nat.reduceAdd, Nat.reduceSub, Nat.reduceMul, Int.reduceLE, Int.reduceLT, Int.reduceToNat, Int.reduceBEq, Int.reduceBNe, List.zipWith, dIntBin]|refine gw_intro (fun h => ?_) (fun h => ?_) <;> try simp only [AVH] at h)
    all_goals try (simp_all; done)
end Go.Av
