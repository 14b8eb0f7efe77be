/- The evaluator, in one text: over any program; no conditions but those that each law names. -/
import Derived.Test.YtcogfddcdpgpkaaGreatDoorAvuf
import Derived.Test.YtcogfddcdpgpkaaGreatDoorAvug
import Derived.Test.YtcogfddcdpgpkaaGreatDoorAvub
set_option linter.unusedSimpArgs false
set_option linter.unusedVariables false
set_option linter.unusedSectionVars false
set_option maxRecDepth 100000
namespace Go.Av
open Go.Proofs
variable [Rk] {chk : List D → Bool}
def cmpF (a b : Int) : Int := if a < b then -1 else if a > b then 1 else 0
theorem nan_L (a : Int) : callL Tryz.prog (ext11b chk) 116 [.int .i64 a] [] = some (.bool false, [.no], []) := by
 have h : (a != a) = false := by simp
 refine callK (m := 6) (res := [2]) (rs := [.tmp 2]) rfl Tryz.func116 rfl rfl rfl rfl rfl ?_
 repeat' (first|simp only [*, AVB, ↓reduceIte, Nat.reduceEqDiff, Nat.reduceLT, reduceCtorEq, Nat.reduceBEq, dIntBin]|refine drW_intro (by kernel_rfl) ?_|refine gw_intro (fun h => ?_) (fun h => ?_) <;> try simp only [AVH] at h)
theorem cmp_L (a b : Int) : callL Tryz.prog (ext11b chk) 88 [.int .i64 a, .int .i64 b] [] = some (.int .i64 (cmpF a b), [.no], []) := by
 have h1 := nan_L (chk := chk) a
 have h2 := nan_L (chk := chk) b
 refine callK (m := 20) (res := [4]) (rs := [.tmp 4]) rfl Tryz.func88 rfl rfl rfl rfl rfl ?_
 unfold cmpF
 by_cases c1 : a < b
 ·repeat' (first|simp only [*, AVB, ↓reduceIte, Nat.reduceEqDiff, Nat.reduceLT, reduceCtorEq, Nat.reduceBEq, dIntBin]|refine drW_intro (by kernel_rfl) ?_|refine gw_intro (fun h => ?_) (fun h => ?_) <;> try simp only [AVH] at h)
 ·by_cases c2 : a > b
  ·repeat' (first|simp only [*, AVB, ↓reduceIte, Nat.reduceEqDiff, Nat.reduceLT, reduceCtorEq, Nat.reduceBEq, dIntBin]|refine drW_intro (by kernel_rfl) ?_|refine gw_intro (fun h => ?_) (fun h => ?_) <;> try simp only [AVH] at h)
  ·repeat' (first|simp only [*, AVB, ↓reduceIte, Nat.reduceEqDiff, Nat.reduceLT, reduceCtorEq, Nat.reduceBEq, dIntBin]|refine drW_intro (by kernel_rfl) ?_|refine gw_intro (fun h => ?_) (fun h => ?_) <;> try simp only [AVH] at h)
def orF : List Int → Int
 | [] => 0
 | z :: r => if z = 0 then orF r else z
theorem i64_at (zs : List Int) (i : Nat) (h : i < zs.length) : (zs.map (D.int .i64)).getD i .bad = .int .i64 (zs.getD i 0) := by simp [List.getD, h]
theorem orF_at (zs : List Int) (i : Nat) (h : i < zs.length) : orF (zs.drop i) = if zs.getD i 0 = 0 then orF (zs.drop (i + 1)) else zs.getD i 0 := by
 have e : zs.getD i 0 = zs[i] := by simp [List.getD, h]
 rw [List.drop_eq_getElem_cons h, orF, e]
theorem lenI (zs : List Int) : ((zs.map (D.int .i64)).length : Int) = zs.length := by simp
set_option maxHeartbeats 4000000 in
theorem or_L (zs : List Int) (hl : zs.length ≤ 1000000) : callL Tryz.prog (ext11b chk) 87 [.list (zs.map (D.int .i64))] [] = some (.int .i64 (orF zs), [.no], []) := by
 have lN := lenI zs
 refine callK (m := 18) (res := [2]) (rs := [.tmp 2]) rfl Tryz.func87 rfl rfl rfl rfl rfl ?_
 have HL := Hd.mk hl
 clear hl
 obtain ⟨R, hR⟩ : ∃ R, Hd (R = orF zs) := ⟨_, rfl⟩
 rw [← (show R = orF zs from hR)]
 repeat' (first|simp only [*, AVB, AVY, ↓reduceIte, Nat.reduceLT, reduceCtorEq, Nat.reduceBEq]|refine drW_intro (by kernel_rfl) ?_|refine gw_intro (fun h => ?_) (fun h => ?_) <;> try simp only [AVH] at h)
 refine loopH (fun st => ∃ i : Nat, i ≤ zs.length ∧ st.slot 6 = .list (zs.map (D.int .i64)) ∧ st.slot 7 = .int .i64 zs.length ∧ st.slot 8 = .int .i64 i ∧ st.slot 3 = .int .i64 0 ∧ st.room 3 = [] ∧ Hd (R = orF (zs.drop i))) (fun st => zs.length - slotI st 8) ?_ ?_
 ·refine ⟨0, Nat.zero_le _, ?_, ?_, ?_, ?_, ?_, hR⟩
  all_goals simp only [*, AVB, ↓reduceIte, Nat.reduceEqDiff]
  all_goals rfl
 ·rintro st K ⟨i, hi, g6, g7, g8, g3, gr, hO⟩ hn hx hr
  have hl : zs.length ≤ 1000000 := HL
  by_cases h : i < zs.length
  ·have g1 : (i : Int) < zs.length := by omega
   have hw := wrapS i (by omega)
   have hat := i64_at zs i h
   have hO' : R = orF (zs.drop i) := hO
   rw [orF_at zs i h] at hO'
   by_cases hz : zs.getD i 0 = 0
   ·rw [if_pos hz] at hO'
    have hb : ((0 : Int) != 0) = false := rfl
    rw [hz] at hat
    have HO := Hd.mk hO'
    clear hO hO' hx hr hl hz
    repeat' (first|simp only [*, AVB, AVY, ↓reduceIte, Nat.reduceEqDiff, Nat.reduceLT, Nat.reduceBEq, dIntBin]|refine drW_intro (by kernel_rfl) ?_|refine gw_intro (fun h => ?_) (fun h => ?_) <;> try simp only [AVH] at h)
    refine hn _ ⟨i + 1, h, ?_, ?_, ?_, ?_, ?_, HO⟩ ?_
    ·simp only [*, AVL, ↓reduceIte, Nat.reduceEqDiff]
    ·simp only [*, AVL, ↓reduceIte, Nat.reduceEqDiff]
    ·simp only [*, AVL, ↓reduceIte]
    ·simp only [*, AVL, ↓reduceIte, Nat.reduceEqDiff]
    ·simp only [*, AVL, ↓reduceIte, Nat.reduceEqDiff]
    ·simp only [slotI, *, AVB, ↓reduceIte]
     omega
   ·rw [if_neg hz] at hO'
    have hb : (zs.getD i 0 != 0) = true := by simpa using hz
    subst hO'
    clear hO hn hx hl hz hR
    generalize zs.getD i 0 = c at *
    repeat' (first|simp only [*, AVB, AVY, ↓reduceIte, Nat.reduceEqDiff, Nat.reduceLT, Nat.reduceBEq, dIntBin]|refine drW_intro (by kernel_rfl) ?_|refine gw_intro (fun h => ?_) (fun h => ?_) <;> try simp only [AVH] at h)
    refine hr _ ?_
    repeat' (first|simp only [*, AVB, ↓reduceIte]|refine drW_intro (by kernel_rfl) ?_|refine gw_intro (fun h => ?_) (fun h => ?_) <;> try simp only [AVH] at h)
  ·have g1 : ¬ (i : Int) < zs.length := by omega
   have e : zs.drop i = [] := List.drop_eq_nil_of_le (by omega)
   have hO' : R = orF (zs.drop i) := hO
   rw [e] at hO'
   have hR0 : R = 0 := hO'
   subst hR0
   clear hO hO' hn hr hl hR e
   repeat' (first|simp only [*, AVB, ↓reduceIte, Nat.reduceLT, dIntBin]|refine drW_intro (by kernel_rfl) ?_|refine gw_intro (fun h => ?_) (fun h => ?_) <;> try simp only [AVH] at h)
   refine hx _ _ ?_
   repeat' (first|simp only [*, AVB, ↓reduceIte, Nat.reduceEqDiff, Nat.reduceLT, Nat.reduceBEq]|refine drW_intro (by kernel_rfl) ?_|refine gw_intro (fun h => ?_) (fun h => ?_) <;> try simp only [AVH] at h)
def lessF (a1 a2 a3 b1 b2 b3 : Int) : Bool := if a1 ≠ b1 then decide (a1 < b1) else if a2 ≠ b2 then decide (a2 < b2) else decide (a3 < b3)
theorem less_or (a1 a2 a3 b1 b2 b3 : Int) : decide (orF [cmpF a1 b1, cmpF a2 b2, cmpF a3 b3] < 0) = lessF a1 a2 a3 b1 b2 b3 := by
 have h : ∀ a b : Int, (cmpF a b = 0 ↔ a = b) ∧ (cmpF a b < 0 ↔ a < b) := by
  intro a b
  unfold cmpF
  split
  ·omega
  ·split <;> omega
 unfold lessF orF orF orF orF
 have h1 := h a1 b1
 have h2 := h a2 b2
 have h3 := h a3 b3
 by_cases c1 : a1 = b1
 ·rw [if_pos (h1.1.2 c1), if_neg (show ¬ (a1 ≠ b1) from fun hh => hh c1)]
  by_cases c2 : a2 = b2
  ·rw [if_pos (h2.1.2 c2), if_neg (show ¬ (a2 ≠ b2) from fun hh => hh c2)]
   by_cases c3 : a3 = b3
   ·rw [if_pos (h3.1.2 c3)]
    have c4 : ¬ a3 < b3 := by omega
    rw [decide_eq_false c4]
    rfl
   ·rw [if_neg (fun hh => c3 (h3.1.1 hh))]
    exact decide_eq_decide.2 h3.2
  ·rw [if_neg (fun hh => c2 (h2.1.1 hh)), if_pos c2]
   exact decide_eq_decide.2 h2.2
 ·rw [if_neg (fun hh => c1 (h1.1.1 hh)), if_pos c1]
  exact decide_eq_decide.2 h1.2
set_option maxHeartbeats 4000000 in
theorem less_L (a1 a2 a3 b1 b2 b3 : Int) : callL Tryz.prog (ext11b chk) 49 [.agg [.int .i64 a1, .int .i64 a2, .int .i64 a3], .agg [.int .i64 b1, .int .i64 b2, .int .i64 b3]] [] = some (.bool (lessF a1 a2 a3 b1 b2 b3), [.no], []) := by
 have h1 := cmp_L (chk := chk) a1 b1
 have h2 := cmp_L (chk := chk) a2 b2
 have h3 := cmp_L (chk := chk) a3 b3
 have h4 := or_L (chk := chk) [cmpF a1 b1, cmpF a2 b2, cmpF a3 b3] (by simp)
 simp only [List.map_cons, List.map_nil] at h4
 rw [← less_or]
 generalize orF [cmpF a1 b1, cmpF a2 b2, cmpF a3 b3] = k at *
 generalize cmpF a1 b1 = k1 at *
 generalize cmpF a2 b2 = k2 at *
 generalize cmpF a3 b3 = k3 at *
 refine callK (m := 23) (res := [4]) (rs := [.tmp 4]) rfl Tryz.func49 rfl rfl rfl rfl rfl ?_
 by_cases hk : k < 0
 ·repeat' (first|simp only [*, AVB, AVY, Yq.AVQ, ↓reduceIte, Nat.reduceEqDiff, Nat.reduceLT, reduceCtorEq, Nat.reduceBEq, Nat.reduceAdd, dIntBin]|refine drW_intro (by kernel_rfl) ?_|refine gw_intro (fun h => ?_) (fun h => ?_) <;> try simp only [AVH] at h)
 ·repeat' (first|simp only [*, AVB, AVY, Yq.AVQ, ↓reduceIte, Nat.reduceEqDiff, Nat.reduceLT, reduceCtorEq, Nat.reduceBEq, Nat.reduceAdd, dIntBin]|refine drW_intro (by kernel_rfl) ?_|refine gw_intro (fun h => ?_) (fun h => ?_) <;> try simp only [AVH] at h)
set_option maxHeartbeats 4000000 in
theorem rless_L (a1 a2 a3 b1 b2 b3 : Int) : callL Tryz.prog (ext11b chk) 24 [.agg [.int .i64 a1, .int .i64 a2, .int .i64 a3], .agg [.int .i64 b1, .int .i64 b2, .int .i64 b3]] [] = some (.bool (lessF a1 a2 a3 b1 b2 b3), [.no], []) := by
 refine callK (m := 30) (res := [4]) (rs := [.tmp 4]) rfl Tryz.func24 rfl rfl rfl rfl rfl ?_
 unfold lessF
 by_cases c1 : a1 = b1
 ·subst c1
  have e1 : (a1 != a1) = false := by simp
  rw [if_neg (by simp)]
  by_cases c2 : a2 = b2
  ·subst c2
   have e2 : (a2 != a2) = false := by simp
   rw [if_neg (by simp)]
   by_cases c3 : a3 < b3
   ·repeat' (first|simp only [*, AVB, AVY, Yq.AVQ, ↓reduceIte, Nat.reduceEqDiff, Nat.reduceLT, reduceCtorEq, Nat.reduceBEq, Nat.reduceAdd, dIntBin]|refine drW_intro (by kernel_rfl) ?_|refine gw_intro (fun h => ?_) (fun h => ?_) <;> try simp only [AVH] at h)
   ·repeat' (first|simp only [*, AVB, AVY, Yq.AVQ, ↓reduceIte, Nat.reduceEqDiff, Nat.reduceLT, reduceCtorEq, Nat.reduceBEq, Nat.reduceAdd, dIntBin]|refine drW_intro (by kernel_rfl) ?_|refine gw_intro (fun h => ?_) (fun h => ?_) <;> try simp only [AVH] at h)
  ·have e2 : (a2 != b2) = true := by simpa using c2
   rw [if_pos c2]
   clear c2
   by_cases c3 : a2 < b2
   ·repeat' (first|simp only [*, AVB, AVY, Yq.AVQ, ↓reduceIte, Nat.reduceEqDiff, Nat.reduceLT, reduceCtorEq, Nat.reduceBEq, Nat.reduceAdd, dIntBin]|refine drW_intro (by kernel_rfl) ?_|refine gw_intro (fun h => ?_) (fun h => ?_) <;> try simp only [AVH] at h)
   ·repeat' (first|simp only [*, AVB, AVY, Yq.AVQ, ↓reduceIte, Nat.reduceEqDiff, Nat.reduceLT, reduceCtorEq, Nat.reduceBEq, Nat.reduceAdd, dIntBin]|refine drW_intro (by kernel_rfl) ?_|refine gw_intro (fun h => ?_) (fun h => ?_) <;> try simp only [AVH] at h)
 ·have e1 : (a1 != b1) = true := by simpa using c1
  rw [if_pos c1]
  clear c1
  by_cases c3 : a1 < b1
  ·repeat' (first|simp only [*, AVB, AVY, Yq.AVQ, ↓reduceIte, Nat.reduceEqDiff, Nat.reduceLT, reduceCtorEq, Nat.reduceBEq, Nat.reduceAdd, dIntBin]|refine drW_intro (by kernel_rfl) ?_|refine gw_intro (fun h => ?_) (fun h => ?_) <;> try simp only [AVH] at h)
  ·repeat' (first|simp only [*, AVB, AVY, Yq.AVQ, ↓reduceIte, Nat.reduceEqDiff, Nat.reduceLT, reduceCtorEq, Nat.reduceBEq, Nat.reduceAdd, dIntBin]|refine drW_intro (by kernel_rfl) ?_|refine gw_intro (fun h => ?_) (fun h => ?_) <;> try simp only [AVH] at h)
theorem less_T (a b : T3) : lessF a.1 a.2.1 a.2.2 b.1 b.2.1 b.2.2 = lessT a b := by
 unfold lessF lessT
 by_cases h1 : a.1 = b.1
 ·by_cases h2 : a.2.1 = b.2.1
  ·simp [h1, h2]
  ·simp [h1, h2]
 ·simp [h1]
def sp3 (x : T3) : D := .agg [.int .i64 x.1, .int .i64 x.2.1, .int .i64 x.2.2]
def oneF (G : List D → T3) (s : Sf) : T3 :=
 if s.kd = 4 then (1, 0, 0)
 else if s.kd = 7 then ((G s.of_).1, IntKind.i64.wrap ((G s.of_).2.1 + 1), (G s.of_).2.2)
 else if s.kd = 3 then (0, 1, 0)
 else if s.kd = 5 then (0, 1, 0)
 else if s.kd = 6 then (0, 1, 0)
 else if s.kd = 11 then (0, 1, 0)
 else if s.kd = 12 then (0, 1, 0)
 else if s.kd = 1 then (0, 0, 1)
 else if s.kd = 13 then (0, 0, 1)
 else if s.kd = 8 then G s.of_
 else if s.kd = 10 then G s.of_
 else (0, 0, 0)
set_option maxHeartbeats 8000000 in
theorem one_L (S : Sf) (G : List D → T3) (r : List Room) (hG : callL Tryz.prog (ext11b chk) 115 [.list S.of_] [] = some (.agg [.int .i64 (G S.of_).1, .int .i64 (G S.of_).2.1, .int .i64 (G S.of_).2.2], [.no], [])) :
  callL Tryz.prog (ext11b chk) 86 [S.d] [] = some (sp3 (oneF G S), [.no], []) := by
 unfold oneF sp3 Sf.d
 generalize G S.of_ = g at *
 obtain ⟨g1, g2, g3⟩ := g
 have w1 : IntKind.i64.wrap ((0 : Int) + 1) = 1 := by decide
 dsimp only at *
 by_cases k4 : S.kd = 4
 ·rw [if_pos k4]
  generalize S.kd = kd at *
  subst k4
  refine callK (m := 34) (res := []) (rs := [.cell 2 63]) rfl Tryz.func86 rfl rfl rfl rfl rfl ?_
  repeat' (first|simp only [*, AVB, AVY, Yq.AVQ, ↓reduceIte, Nat.reduceEqDiff, Nat.reduceLT, Nat.reduceLeDiff, reduceCtorEq, Nat.reduceAdd, dIntBin]|refine drW_intro (by kernel_rfl) ?_|refine gw_intro (fun h => ?_) (fun h => ?_) <;> try simp only [AVH] at h)
 rw [if_neg k4]
 by_cases k7 : S.kd = 7
 ·rw [if_pos k7]
  generalize S.kd = kd at *
  subst k7
  clear k4
  refine callK (m := 34) (res := []) (rs := [.cell 2 63]) rfl Tryz.func86 rfl rfl rfl rfl rfl ?_
  repeat' (first|simp only [*, AVB, AVY, Yq.AVQ, ↓reduceIte, Nat.reduceEqDiff, Nat.reduceLT, Nat.reduceLeDiff, reduceCtorEq, Nat.reduceAdd, Int.reduceBEq, dIntBin]|refine drW_intro (by kernel_rfl) ?_|refine gw_intro (fun h => ?_) (fun h => ?_) <;> try simp only [AVH] at h)
 rw [if_neg k7]
 by_cases k3 : S.kd = 3
 ·rw [if_pos k3]
  generalize S.kd = kd at *
  subst k3
  clear k4 k7
  refine callK (m := 34) (res := []) (rs := [.cell 2 63]) rfl Tryz.func86 rfl rfl rfl rfl rfl ?_
  repeat' (first|simp only [*, AVB, AVY, Yq.AVQ, ↓reduceIte, Nat.reduceEqDiff, Nat.reduceLT, Nat.reduceLeDiff, reduceCtorEq, Nat.reduceAdd, Int.reduceBEq, dIntBin]|refine drW_intro (by kernel_rfl) ?_|refine gw_intro (fun h => ?_) (fun h => ?_) <;> try simp only [AVH] at h)
 rw [if_neg k3]
 by_cases k5 : S.kd = 5
 ·rw [if_pos k5]
  generalize S.kd = kd at *
  subst k5
  clear k4 k7 k3
  refine callK (m := 34) (res := []) (rs := [.cell 2 63]) rfl Tryz.func86 rfl rfl rfl rfl rfl ?_
  repeat' (first|simp only [*, AVB, AVY, Yq.AVQ, ↓reduceIte, Nat.reduceEqDiff, Nat.reduceLT, Nat.reduceLeDiff, reduceCtorEq, Nat.reduceAdd, Int.reduceBEq, dIntBin]|refine drW_intro (by kernel_rfl) ?_|refine gw_intro (fun h => ?_) (fun h => ?_) <;> try simp only [AVH] at h)
 rw [if_neg k5]
 by_cases k6 : S.kd = 6
 ·rw [if_pos k6]
  generalize S.kd = kd at *
  subst k6
  clear k4 k7 k3 k5
  refine callK (m := 34) (res := []) (rs := [.cell 2 63]) rfl Tryz.func86 rfl rfl rfl rfl rfl ?_
  repeat' (first|simp only [*, AVB, AVY, Yq.AVQ, ↓reduceIte, Nat.reduceEqDiff, Nat.reduceLT, Nat.reduceLeDiff, reduceCtorEq, Nat.reduceAdd, Int.reduceBEq, dIntBin]|refine drW_intro (by kernel_rfl) ?_|refine gw_intro (fun h => ?_) (fun h => ?_) <;> try simp only [AVH] at h)
 rw [if_neg k6]
 by_cases k11 : S.kd = 11
 ·rw [if_pos k11]
  generalize S.kd = kd at *
  subst k11
  clear k4 k7 k3 k5 k6
  refine callK (m := 34) (res := []) (rs := [.cell 2 63]) rfl Tryz.func86 rfl rfl rfl rfl rfl ?_
  repeat' (first|simp only [*, AVB, AVY, Yq.AVQ, ↓reduceIte, Nat.reduceEqDiff, Nat.reduceLT, Nat.reduceLeDiff, reduceCtorEq, Nat.reduceAdd, Int.reduceBEq, dIntBin]|refine drW_intro (by kernel_rfl) ?_|refine gw_intro (fun h => ?_) (fun h => ?_) <;> try simp only [AVH] at h)
 rw [if_neg k11]
 by_cases k12 : S.kd = 12
 ·rw [if_pos k12]
  generalize S.kd = kd at *
  subst k12
  clear k4 k7 k3 k5 k6 k11
  refine callK (m := 34) (res := []) (rs := [.cell 2 63]) rfl Tryz.func86 rfl rfl rfl rfl rfl ?_
  repeat' (first|simp only [*, AVB, AVY, Yq.AVQ, ↓reduceIte, Nat.reduceEqDiff, Nat.reduceLT, Nat.reduceLeDiff, reduceCtorEq, Nat.reduceAdd, Int.reduceBEq, dIntBin]|refine drW_intro (by kernel_rfl) ?_|refine gw_intro (fun h => ?_) (fun h => ?_) <;> try simp only [AVH] at h)
 rw [if_neg k12]
 by_cases k1 : S.kd = 1
 ·rw [if_pos k1]
  generalize S.kd = kd at *
  subst k1
  clear k4 k7 k3 k5 k6 k11 k12
  refine callK (m := 34) (res := []) (rs := [.cell 2 63]) rfl Tryz.func86 rfl rfl rfl rfl rfl ?_
  repeat' (first|simp only [*, AVB, AVY, Yq.AVQ, ↓reduceIte, Nat.reduceEqDiff, Nat.reduceLT, Nat.reduceLeDiff, reduceCtorEq, Nat.reduceAdd, Int.reduceBEq, dIntBin]|refine drW_intro (by kernel_rfl) ?_|refine gw_intro (fun h => ?_) (fun h => ?_) <;> try simp only [AVH] at h)
 rw [if_neg k1]
 by_cases k13 : S.kd = 13
 ·rw [if_pos k13]
  generalize S.kd = kd at *
  subst k13
  clear k4 k7 k3 k5 k6 k11 k12 k1
  refine callK (m := 34) (res := []) (rs := [.cell 2 63]) rfl Tryz.func86 rfl rfl rfl rfl rfl ?_
  repeat' (first|simp only [*, AVB, AVY, Yq.AVQ, ↓reduceIte, Nat.reduceEqDiff, Nat.reduceLT, Nat.reduceLeDiff, reduceCtorEq, Nat.reduceAdd, Int.reduceBEq, dIntBin]|refine drW_intro (by kernel_rfl) ?_|refine gw_intro (fun h => ?_) (fun h => ?_) <;> try simp only [AVH] at h)
 rw [if_neg k13]
 by_cases k8 : S.kd = 8
 ·rw [if_pos k8]
  generalize S.kd = kd at *
  subst k8
  clear k4 k7 k3 k5 k6 k11 k12 k1 k13
  refine callK (m := 34) (res := []) (rs := [.cell 2 63]) rfl Tryz.func86 rfl rfl rfl rfl rfl ?_
  repeat' (first|simp only [*, AVB, AVY, Yq.AVQ, ↓reduceIte, Nat.reduceEqDiff, Nat.reduceLT, Nat.reduceLeDiff, Nat.reduceAdd, Int.reduceBEq, dIntBin]|refine drW_intro (by kernel_rfl) ?_|refine gw_intro (fun h => ?_) (fun h => ?_) <;> try simp only [AVH] at h)
 rw [if_neg k8]
 by_cases k10 : S.kd = 10
 ·rw [if_pos k10]
  generalize S.kd = kd at *
  subst k10
  clear k4 k7 k3 k5 k6 k11 k12 k1 k13 k8
  refine callK (m := 34) (res := []) (rs := [.cell 2 63]) rfl Tryz.func86 rfl rfl rfl rfl rfl ?_
  repeat' (first|simp only [*, AVB, AVY, Yq.AVQ, ↓reduceIte, Nat.reduceEqDiff, Nat.reduceLT, Nat.reduceLeDiff, Nat.reduceAdd, Int.reduceBEq, dIntBin]|refine drW_intro (by kernel_rfl) ?_|refine gw_intro (fun h => ?_) (fun h => ?_) <;> try simp only [AVH] at h)
 rw [if_neg k10]
 have n4 := (neI k4).1
 have n7 := (neI k7).1
 have n3 := (neI k3).1
 have n5 := (neI k5).1
 have n6 := (neI k6).1
 have n11 := (neI k11).1
 have n12 := (neI k12).1
 have n1 := (neI k1).1
 have n13 := (neI k13).1
 have n8 := (neI k8).1
 have n10 := (neI k10).1
 clear k4 k7 k3 k5 k6 k11 k12 k1 k13 k8 k10
 refine callK (m := 34) (res := []) (rs := [.cell 2 63]) rfl Tryz.func86 rfl rfl rfl rfl rfl ?_
 repeat' (first|simp only [*, AVB, AVY, Yq.AVQ, ↓reduceIte, Nat.reduceEqDiff, Nat.reduceLT, Nat.reduceLeDiff, reduceCtorEq, Nat.reduceAdd, dIntBin]|refine drW_intro (by kernel_rfl) ?_|refine gw_intro (fun h => ?_) (fun h => ?_) <;> try simp only [AVH] at h)
set_option maxHeartbeats 4000000 in
theorem great115_L (l : List D) (P : D → T3) (hl : l.length ≤ 1000) (hf : ∀ c ∈ l, c = cxD (cxL c)) (hP : ∀ c ∈ l, callL Tryz.prog (ext11b chk) 48 [c] [] = some (.agg [.int .i64 (P c).1, .int .i64 (P c).2.1, .int .i64 (P c).2.2], [], [])) :
  callL Tryz.prog (ext11b chk) 115 [.list l] [] = some (.agg [.int .i64 (bestT (l.map P) (0, 0, 0)).1, .int .i64 (bestT (l.map P) (0, 0, 0)).2.1, .int .i64 (bestT (l.map P) (0, 0, 0)).2.2], [.no], []) := by
 have HP := Hd.mk hP
 have HF := Hd.mk hf
 have HL := Hd.mk hl
 obtain ⟨R, hRe⟩ : ∃ R, Hd (R = bestT (l.map P) (0, 0, 0)) := ⟨_, rfl⟩
 rw [← (show R = bestT (l.map P) (0, 0, 0) from hRe)]
 clear hP hl hf
 refine callK (m := 20) (res := []) (rs := [.cell 2 63]) rfl Tryz.func115 rfl rfl rfl rfl rfl ?_
 repeat' (first|simp only [*, AVB, AVY, Yq.AVQ, ↓reduceIte, Nat.reduceLT, reduceCtorEq, Nat.reduceBEq, Nat.reduceAdd]|refine drW_intro (by kernel_rfl) ?_|refine gw_intro (fun h => ?_) (fun h => ?_) <;> try simp only [AVH] at h)
 refine loopH (fun st => ∃ (i : Nat) (b : T3), i ≤ l.length ∧ st.slot 8 = .int .i64 i ∧ st.slot 7 = .int .i64 l.length ∧ st.slot 6 = .list l ∧ st.slot 2 = .ptr 2 1 0 ∧ (∃ r2, st.box 2 = some ⟨1, [.int .i64 b.1, .int .i64 b.2.1, .int .i64 b.2.2], r2⟩) ∧ Hd (R = bestT ((l.drop i).map P) b)) (fun st => l.length - slotI st 8) ?_ ?_
 ·refine ⟨0, (0, 0, 0), Nat.zero_le _, ?_, ?_, ?_, ?_, ⟨zrooms Tryz.prog 63, ?_⟩, hRe⟩
  all_goals simp only [*, AVB, Yq.AVQ, ↓reduceIte, Nat.reduceEqDiff]
  all_goals rfl
 ·rintro st K ⟨i, b, hi, g8, g7, g6, g2, ⟨r2, b2⟩, hO⟩ hn hx hr
  have hO' : R = bestT ((l.drop i).map P) b := hO
  have hll : l.length ≤ 1000 := HL
  by_cases h : i < l.length
  ·have k9 : (i : Int) < l.length := by omega
   have hw := wrapS i (by omega)
   obtain ⟨c, hc1⟩ := some_at h
   have hm := List.mem_of_getElem? hc1
   have hcf := (show ∀ c ∈ l, c = cxD (cxL c) from HF) c hm
   have hcc := (show ∀ c ∈ l, _ from HP) c hm
   rw [drop_at hc1, List.map_cons] at hO'
   have hO2 : R = bestT ((l.drop (i + 1)).map P) (mx b (P c)) := hO'
   have hg := self_getD hc1
   generalize P c = x at *
   generalize cxL c = Y at *
   subst hcf
   unfold cxD at *
   have hle := less_L (chk := chk) b.1 b.2.1 b.2.2 x.1 x.2.1 x.2.2
   rw [less_T] at hle
   unfold mx at hO2
   obtain ⟨b0, b1, b3⟩ := b
   obtain ⟨x0, x1, x2⟩ := x
   dsimp only at hle hcc b2
   cases hv : lessT (b0, b1, b3) (x0, x1, x2) with
   | true =>
    rw [hv] at hle
    rw [hv, if_pos rfl] at hO2
    have HO := Hd.mk hO2
    clear hr hx hO hO' hO2 hRe hc1 hm hll hv
    repeat' (first|simp only [*, AVB, AVY, Yq.AVQ, ↓reduceIte, Nat.reduceEqDiff, Nat.reduceLT, Nat.reduceLeDiff, Nat.reduceAdd, dIntBin]|refine drW_intro (by kernel_rfl) ?_|refine gw_intro (fun h => ?_) (fun h => ?_) <;> try simp only [AVH] at h)
    refine hn _ ⟨i + 1, (x0, x1, x2), h, ?_, ?_, ?_, ?_, ?_, HO⟩ ?_
    ·simp only [*, AVL, ↓reduceIte]
    ·simp only [*, AVL, ↓reduceIte, Nat.reduceEqDiff]
    ·simp only [*, AVL, ↓reduceIte, Nat.reduceEqDiff]
    ·simp only [*, AVL, ↓reduceIte, Nat.reduceEqDiff]
    ·apply Exists.intro
     simp only [*, AVB, ↓reduceIte]
     rfl
    ·simp only [slotI, *, AVB, ↓reduceIte]
     omega
   | false =>
    rw [hv] at hle
    rw [hv, if_neg (by decide)] at hO2
    have HO := Hd.mk hO2
    clear hr hx hO hO' hO2 hRe hc1 hm hll hv
    repeat' (first|simp only [*, AVB, AVY, Yq.AVQ, ↓reduceIte, Nat.reduceEqDiff, Nat.reduceLT, Nat.reduceLeDiff, Nat.reduceAdd, dIntBin]|refine drW_intro (by kernel_rfl) ?_|refine gw_intro (fun h => ?_) (fun h => ?_) <;> try simp only [AVH] at h)
    refine hn _ ⟨i + 1, (b0, b1, b3), h, ?_, ?_, ?_, ?_, ⟨r2, ?_⟩, HO⟩ ?_
    ·simp only [*, AVL, ↓reduceIte]
    ·simp only [*, AVL, ↓reduceIte, Nat.reduceEqDiff]
    ·simp only [*, AVL, ↓reduceIte, Nat.reduceEqDiff]
    ·simp only [*, AVL, ↓reduceIte, Nat.reduceEqDiff]
    ·simp only [*, AVL, ↓reduceIte, Nat.reduceEqDiff]
    ·simp only [slotI, *, AVB, ↓reduceIte]
     omega
  ·have k9 : ¬ (i : Int) < l.length := by omega
   rw [List.drop_eq_nil_of_le (by omega)] at hO'
   have hO2 : R = b := hO'
   subst hO2
   clear hn hr hO hO' hRe h hll
   repeat' (first|simp only [*, AVB, ↓reduceIte, Nat.reduceLT, dIntBin]|refine drW_intro (by kernel_rfl) ?_|refine gw_intro (fun h => ?_) (fun h => ?_) <;> try simp only [AVH] at h)
   refine hx _ _ ?_
   repeat' (first|simp only [*, AVB, Yq.AVQ, ↓reduceIte, Nat.reduceEqDiff, Nat.reduceLT, Nat.reduceLeDiff, Nat.reduceAdd]|refine drW_intro (by kernel_rfl) ?_|refine gw_intro (fun h => ?_) (fun h => ?_) <;> try simp only [AVH] at h)
end Go.Av
namespace Go.Av
open Go.Proofs
variable [Rk] {chk : List D → Bool}
theorem mx_T (b x : T3) : mx b x = if lessT b x = true then x else b := rfl
set_option maxHeartbeats 8000000 in
theorem mspec_L (ns : List Nd) (nm : Nam) (l : List D) (n : Int) (ps : List UInt8) (V : D → Bool) (P : D → T3) (hl : l.length ≤ 1000) (hf : ∀ c ∈ l, c = cxD (cxL c))
  (hV : ∀ c ∈ l, callL Tryz.prog (ext11b chk) 20 [treeN ns, c, .agg nm.cs, .agg [.int .i64 n, .str ps]] [] = some (.bool (V c), [.no], []))
  (hP : ∀ c ∈ l, callL Tryz.prog (ext11b chk) 48 [c] [] = some (.agg [.int .i64 (P c).1, .int .i64 (P c).2.1, .int .i64 (P c).2.2], [], [])) :
  callL Tryz.prog (ext11b chk) 22 [treeN ns, .list l, .agg nm.cs, .agg [.int .i64 n, .str ps]] [] = some (.tuple [sp3 (specV V P l).1, .bool (specV V P l).2], [.no, .no], []) := by
 have HP := Hd.mk hP
 have HF := Hd.mk hf
 have HL := Hd.mk hl
 have HV := Hd.mk hV
 unfold specV sp3
 obtain ⟨R1, hR1⟩ : ∃ R1, Hd (R1 = bestT ((l.filter V).map P) (0, 0, 0)) := ⟨_, rfl⟩
 obtain ⟨R2, hR2⟩ : ∃ R2, Hd (R2 = l.any V) := ⟨_, rfl⟩
 dsimp only
 rw [← (show R1 = bestT ((l.filter V).map P) (0, 0, 0) from hR1), ← (show R2 = l.any V from hR2)]
 have HO0 := Hd.mk (show R1 = bestT (((l.drop 0).filter V).map P) (0, 0, 0) ∧ R2 = (false || (l.drop 0).any V) from ⟨hR1, by rw [Bool.false_or]; exact hR2⟩)
 clear hP hl hf hV hR1 hR2
 unfold Nam.cs at *
 obtain ⟨T, hT⟩ := tree_fix ns
 generalize treeN ns = T0 at *
 subst hT
 refine callK (m := 34) (res := [9]) (rs := [.cell 8 63, .tmp 9]) rfl Tryz.func22 rfl rfl rfl rfl rfl ?_
 repeat' (first|simp only [*, AVB, AVY, Yq.AVQ, ↓reduceIte, Nat.reduceEqDiff, Nat.reduceLT, Nat.reduceBEq, Nat.reduceAdd]|refine drW_intro (by kernel_rfl) ?_|refine gw_intro (fun h => ?_) (fun h => ?_) <;> try simp only [AVH] at h)
 refine loopH (fun st => ∃ (i : Nat) (b : T3) (ok : Bool) (r6 r7 : List Room), i ≤ l.length ∧ st.slot 15 = .int .i64 i ∧ st.slot 14 = .int .i64 l.length ∧ st.slot 13 = .list l ∧ st.slot 0 = .fix T 0 ∧ st.slot 6 = .ptr 6 1 0 ∧ st.box 6 = some ⟨1, [.bool nm.has, .str nm.dft, .list (nm.pre.map .str), .list (nm.sps.map .str)], r6⟩ ∧ st.slot 7 = .ptr 7 1 0 ∧ st.box 7 = some ⟨1, [.int .i64 n, .str ps], r7⟩ ∧ st.slot 8 = .ptr 8 1 0 ∧ (∃ r8, st.box 8 = some ⟨1, [.int .i64 b.1, .int .i64 b.2.1, .int .i64 b.2.2], r8⟩) ∧ st.slot 9 = .bool ok ∧ st.room 9 = [] ∧ Hd (R1 = bestT (((l.drop i).filter V).map P) b ∧ R2 = (ok || (l.drop i).any V))) (fun st => l.length - slotI st 15) ?_ ?_
 ·refine ⟨0, (0, 0, 0), false, (padR [] 4).take 4, (padR [] 2).take 2, Nat.zero_le _, ?_, ?_, ?_, ?_, ?_, ?_, ?_, ?_, ?_, ⟨zrooms Tryz.prog 63, ?_⟩, ?_, ?_, HO0⟩
  all_goals simp only [*, AVB, Yq.AVQ, ↓reduceIte, Nat.reduceEqDiff, reduceCtorEq]
  all_goals rfl
 ·rintro st K ⟨i, b, ok, r6, r7, hi, g15, g14, g13, g0, g6, b6, g7, b7, g8, ⟨r8, b8⟩, g9, m9, hO⟩ hn hx hr
  have hO' : R1 = bestT (((l.drop i).filter V).map P) b ∧ R2 = (ok || (l.drop i).any V) := hO
  have hll : l.length ≤ 1000 := HL
  obtain ⟨b0, b1, b3⟩ := b
  dsimp only at b8
  by_cases h : i < l.length
  ·have k9 : (i : Int) < l.length := by omega
   have hw := wrapS i (by omega)
   obtain ⟨c, hc1⟩ := some_at h
   have hm := List.mem_of_getElem? hc1
   have hcf := (show ∀ c ∈ l, c = cxD (cxL c) from HF) c hm
   have hcc := (show ∀ c ∈ l, _ from HP) c hm
   have hcv := (show ∀ c ∈ l, _ from HV) c hm
   rw [drop_at hc1, List.any_cons, List.filter_cons] at hO'
   have hg := self_getD hc1
   obtain ⟨v, hv⟩ : ∃ v, V c = v := ⟨_, rfl⟩
   obtain ⟨Q, hQ⟩ : ∃ Q, P c = Q := ⟨_, rfl⟩
   rw [hv] at hO' hcv
   generalize cxL c = Y at *
   cases v with
   | false =>
    rw [if_neg (by decide), Bool.false_or] at hO'
    subst hcf
    unfold cxD at *
    have HO := Hd.mk hO'
    clear hr hx hO hO' hc1 hm hll hv hcc hQ
    repeat' (first|simp only [*, AVB, AVY, Yq.AVQ, ↓reduceIte, Nat.reduceEqDiff, Nat.reduceLT, Nat.reduceLeDiff, reduceCtorEq, Nat.reduceBEq, dIntBin]|refine drW_intro (by kernel_rfl) ?_|refine gw_intro (fun h => ?_) (fun h => ?_) <;> try simp only [AVH] at h)
    refine hn _ ⟨i + 1, (b0, b1, b3), ok, r6, r7, h, ?_, ?_, ?_, ?_, ?_, ?_, ?_, ?_, ?_, ⟨r8, ?_⟩, ?_, ?_, HO⟩ ?_
    ·simp only [*, AVL, ↓reduceIte]
    ·simp only [*, AVL, ↓reduceIte, Nat.reduceEqDiff]
    ·simp only [*, AVL, ↓reduceIte, Nat.reduceEqDiff]
    ·simp only [*, AVL, ↓reduceIte, reduceCtorEq]
    ·simp only [*, AVL, ↓reduceIte, Nat.reduceEqDiff]
    ·simp only [*, AVL, ↓reduceIte, Nat.reduceEqDiff]
    ·simp only [*, AVL, ↓reduceIte, Nat.reduceEqDiff]
    ·simp only [*, AVL, ↓reduceIte, Nat.reduceEqDiff]
    ·simp only [*, AVL, ↓reduceIte, Nat.reduceEqDiff]
    ·simp only [*, AVL, ↓reduceIte, Nat.reduceEqDiff]
    ·simp only [*, AVL, ↓reduceIte, Nat.reduceEqDiff]
    ·simp only [*, AVL, ↓reduceIte, Nat.reduceEqDiff]
    ·simp only [slotI, *, AVB, ↓reduceIte]
     omega
   | true =>
    rw [if_pos rfl, List.map_cons, hQ, Bool.true_or, Bool.or_true] at hO'
    rw [hQ] at hcc
    have hO2 : R1 = bestT (((l.drop (i + 1)).filter V).map P) (mx (b0, b1, b3) Q) ∧ R2 = true := hO'
    subst hcf
    unfold cxD at *
    obtain ⟨x0, x1, x2⟩ := Q
    have hle := less_L (chk := chk) b0 b1 b3 x0 x1 x2
    have hlt := less_T (b0, b1, b3) (x0, x1, x2)
    dsimp only at hlt
    rw [hlt] at hle
    rw [mx_T] at hO2
    dsimp only at hle hcc
    clear hlt
    cases hq : lessT (b0, b1, b3) (x0, x1, x2) with
    | true =>
     rw [hq] at hle
     rw [hq, if_pos rfl] at hO2
     have HO := Hd.mk (show R1 = bestT (((l.drop (i + 1)).filter V).map P) (x0, x1, x2) ∧ R2 = (true || (l.drop (i + 1)).any V) from ⟨hO2.1, by rw [Bool.true_or]; exact hO2.2⟩)
     clear hr hx hO hO' hO2 hc1 hm hll hv hQ hq
     repeat' (first|simp only [*, AVB, AVY, Yq.AVQ, ↓reduceIte, Nat.reduceEqDiff, Nat.reduceLT, Nat.reduceLeDiff, reduceCtorEq, Nat.reduceBEq, Nat.reduceAdd, dIntBin]|refine drW_intro (by kernel_rfl) ?_|refine gw_intro (fun h => ?_) (fun h => ?_) <;> try simp only [AVH] at h)
     refine hn _ ⟨i + 1, (x0, x1, x2), true, r6, r7, h, ?_, ?_, ?_, ?_, ?_, ?_, ?_, ?_, ?_, ?_, ?_, ?_, HO⟩ ?_
     ·simp only [*, AVL, ↓reduceIte]
     ·simp only [*, AVL, ↓reduceIte, Nat.reduceEqDiff]
     ·simp only [*, AVL, ↓reduceIte, Nat.reduceEqDiff]
     ·simp only [*, AVL, ↓reduceIte, reduceCtorEq]
     ·simp only [*, AVL, ↓reduceIte, Nat.reduceEqDiff]
     ·simp only [*, AVL, ↓reduceIte, Nat.reduceEqDiff]
     ·simp only [*, AVL, ↓reduceIte, Nat.reduceEqDiff]
     ·simp only [*, AVL, ↓reduceIte, Nat.reduceEqDiff]
     ·simp only [*, AVL, ↓reduceIte, Nat.reduceEqDiff]
     ·apply Exists.intro
      simp only [*, AVB, ↓reduceIte]
      rfl
     ·simp only [*, AVL, ↓reduceIte, Nat.reduceEqDiff]
     ·simp only [*, AVL, ↓reduceIte, Nat.reduceEqDiff]
     ·simp only [slotI, *, AVB, ↓reduceIte]
      omega
    | false =>
     rw [hq] at hle
     rw [hq, if_neg (by decide)] at hO2
     have HO := Hd.mk (show R1 = bestT (((l.drop (i + 1)).filter V).map P) (b0, b1, b3) ∧ R2 = (true || (l.drop (i + 1)).any V) from ⟨hO2.1, by rw [Bool.true_or]; exact hO2.2⟩)
     clear hr hx hO hO' hO2 hc1 hm hll hv hQ hq
     repeat' (first|simp only [*, AVB, AVY, Yq.AVQ, ↓reduceIte, Nat.reduceEqDiff, Nat.reduceLT, Nat.reduceLeDiff, reduceCtorEq, Nat.reduceBEq, Nat.reduceAdd, dIntBin]|refine drW_intro (by kernel_rfl) ?_|refine gw_intro (fun h => ?_) (fun h => ?_) <;> try simp only [AVH] at h)
     refine hn _ ⟨i + 1, (b0, b1, b3), true, r6, r7, h, ?_, ?_, ?_, ?_, ?_, ?_, ?_, ?_, ?_, ⟨r8, ?_⟩, ?_, ?_, HO⟩ ?_
     ·simp only [*, AVL, ↓reduceIte]
     ·simp only [*, AVL, ↓reduceIte, Nat.reduceEqDiff]
     ·simp only [*, AVL, ↓reduceIte, Nat.reduceEqDiff]
     ·simp only [*, AVL, ↓reduceIte, reduceCtorEq]
     ·simp only [*, AVL, ↓reduceIte, Nat.reduceEqDiff]
     ·simp only [*, AVL, ↓reduceIte, Nat.reduceEqDiff]
     ·simp only [*, AVL, ↓reduceIte, Nat.reduceEqDiff]
     ·simp only [*, AVL, ↓reduceIte, Nat.reduceEqDiff]
     ·simp only [*, AVL, ↓reduceIte, Nat.reduceEqDiff]
     ·simp only [*, AVL, ↓reduceIte, Nat.reduceEqDiff]
     ·simp only [*, AVL, ↓reduceIte, Nat.reduceEqDiff]
     ·simp only [*, AVL, ↓reduceIte, Nat.reduceEqDiff]
     ·simp only [slotI, *, AVB, ↓reduceIte]
      omega
  ·have k9 : ¬ (i : Int) < l.length := by omega
   rw [List.drop_eq_nil_of_le (by omega)] at hO'
   have hO1 : R1 = (b0, b1, b3) := hO'.1
   have hO2 : R2 = ok := hO'.2.trans (Bool.or_false _)
   subst hO1
   subst hO2
   clear hn hr hO hO' h hll HO0
   repeat' (first|simp only [*, AVB, ↓reduceIte, Nat.reduceLT, dIntBin]|refine drW_intro (by kernel_rfl) ?_|refine gw_intro (fun h => ?_) (fun h => ?_) <;> try simp only [AVH] at h)
   refine hx _ _ ?_
   repeat' (first|simp only [*, AVB, Yq.AVQ, ↓reduceIte, Nat.reduceEqDiff, Nat.reduceLT, Nat.reduceLeDiff, Nat.reduceBEq, Nat.reduceAdd]|refine drW_intro (by kernel_rfl) ?_|refine gw_intro (fun h => ?_) (fun h => ?_) <;> try simp only [AVH] at h)
end Go.Av
namespace Go.Av
open Go.Proofs Go.RowKit Go.Proofs.YtcogfddcdpgpkaaGreatDoor
def gOf (P : D → T3) (l : List D) : T3 := bestT (l.map P) (0, 0, 0)
def specF : Nat → D → T3
 | 0, _ => (0, 0, 0)
 | k + 1, c => sumL (fun s => oneF (gOf (specF k)) (sf s)) ((cxL c).flatMap cpL)
theorem sumL_congr {o o' : D → T3} (ss : List D) (h : ∀ s ∈ ss, o s = o' s) : sumL o ss = sumL o' ss := by
 unfold sumL
 generalize ((0, 0, 0) : T3) = z
 induction ss generalizing z with
 | nil => rfl
 | cons s r ih =>
  rw [List.foldl_cons, List.foldl_cons, h s (List.mem_cons_self ..)]
  exact ih (fun x hx => h x (List.mem_cons_of_mem _ hx)) _
theorem oneF_congr {G G' : List D → T3} {S : Sf} (h : G S.of_ = G' S.of_) : oneF G S = oneF G' S := by
 unfold oneF
 rw [h]
theorem gOf_congr {P P' : D → T3} {l : List D} (h : ∀ c ∈ l, P c = P' c) : gOf P l = gOf P' l := by
 unfold gOf
 rw [List.map_congr_left h]
theorem flat_sm {m k : Nat} {c : D} (h : cxOk m (smOk m k) c = true) : ∀ s ∈ (cxL c).flatMap cpL, smOk m k s = true := by
 intro s hs
 obtain ⟨x, hx, hxs⟩ := List.mem_flatMap.1 hs
 obtain ⟨l, rfl, _, h1⟩ := cxOk_inv h
 obtain ⟨cc, sl, rfl, _, h2⟩ := cpOk_inv (h1 x hx)
 exact h2 s hxs
theorem spec_fuel {m : Nat} : ∀ (k : Nat) (c : D), cxOk m (smOk m k) c = true → ∀ j, k ≤ j → specF j c = specF k c
 | 0, c, h, j, _ => by
  have hn : (cxL c).flatMap cpL = [] := List.eq_nil_iff_forall_not_mem.2 fun s hs => by
   have := flat_sm h s hs
   simp [smOk] at this
  cases j with
  | zero => rfl
  | succ j =>
   unfold specF
   rw [hn]
   rfl
 | k + 1, c, h, 0, hj => absurd hj (by omega)
 | k + 1, c, h, j + 1, hj => by
  unfold specF
  refine sumL_congr _ fun s hs => oneF_congr (gOf_congr fun d hd => ?_)
  obtain ⟨_, _, _, _, h4⟩ := smOk_inv (flat_sm h s hs)
  exact spec_fuel k d ((lsOk_mem h4).2 d hd) j (by omega)
def spT : D → T3 := specF 50
theorem spT_step {k : Nat} {c : D} (hk : k ≤ 50) (h : cxOk 100 (smOk 100 k) c = true) : spT c = sumL (fun s => oneF (gOf spT) (sf s)) ((cxL c).flatMap cpL) := by
 have h1 : spT c = specF k c := spec_fuel k c h 50 hk
 rw [h1]
 cases k with
 | zero =>
  have hn : (cxL c).flatMap cpL = [] := List.eq_nil_iff_forall_not_mem.2 fun s hs => by
   have := flat_sm h s hs
   simp [smOk] at this
  rw [hn]
  rfl
 | succ k =>
  unfold specF
  refine sumL_congr _ fun s hs => oneF_congr (gOf_congr fun d hd => ?_)
  obtain ⟨_, _, _, _, h4⟩ := smOk_inv (flat_sm h s hs)
  exact (spec_fuel k d ((lsOk_mem h4).2 d hd) 50 (by omega)).symm
def spE (k : Nat) : Call := fun f args pbs => match f, args, pbs with
 | 8, [], [] => some (.bool true, [.no], [])
 | 48, [c], [] => if cxOk 100 (smOk 100 k) c = true then some (sp3 (spT c), [], []) else none
 | _, _, _ => none
def SpC (k : Nat) : Prop := ∀ c, cxOk 100 (smOk 100 k) c = true → C1 48 [c] (sp3 (spT c)) []
theorem spE_ok {k : Nat} (h : SpC k) : CallOK Tryz.prog (spE k) := by
 intro f args pbs d r pbs' he
 unfold spE at he
 split at he
 ·simp only [Option.some.injEq, Prod.mk.injEq] at he
  obtain ⟨rfl, rfl, rfl⟩ := he
  obtain ⟨c1, c2⟩ := sp8
  exact ⟨c1, fun vals w F μ hl hd _ hgv hlt hg => c2 vals w F μ hl hd hgv hlt hg⟩
 ·rename_i c
  split at he
  ·rename_i hc
   simp only [Option.some.injEq, Prod.mk.injEq] at he
   obtain ⟨rfl, rfl, rfl⟩ := he
   obtain ⟨c1, c2⟩ := h c hc
   exact ⟨c1, fun vals w F μ hl hd _ hgv hlt hg => c2 vals w F μ hl hd hgv hlt hg⟩
  ·cases he
 ·cases he
theorem sm_isSm {m k : Nat} {d : D} (h : smOk m k d = true) : isSm d = true := by
 cases k with
 | zero => simp [smOk] at h
 | succ k =>
  obtain ⟨e, _⟩ := smOk_inv h
  rw [e]
  rfl
theorem den_cx {c : Nat → Nat} {ν : Nat → Nat → Nat} {F : Nat → Nat → Prop} {w : World} {v : Value} {l : List D} (h : Den c ν F w v (cxD l)) : Den0 F w v (cxD l) := by
 unfold cxD at *
 cases h with
 | pure v d hp => exact hp
 | agg vs _ h1 h2 h3 =>
  refine .agg vs _ h1 h2 (fun i v d a b => ?_)
  match i with
  | 0 =>
   simp only [List.getElem?_cons_zero, Option.some.injEq] at b
   subst b
   exact (h3 0 v _ a rfl).list_
  | i + 1 => simp at b
theorem sp_step {k : Nat} (hk : k ≤ 50) (ext : Call) (hext : CallOK Tryz.prog ext)
  (hone : ∀ s, smOk 100 k s = true → callL Tryz.prog ext 86 [s] [] = some (sp3 (oneF (gOf spT) (sf s)), [.no], [])) : SpC k := by
 intro c hc
 refine ⟨⟨_, Tryz.func48, rfl⟩, fun vals w F μ hl hd _ hlt hg => ?_⟩
 match vals, hl with
 | [v], _ =>
  obtain ⟨X, rfl, hX1, hX2⟩ := cxOk_inv hc
  have d0 := (den_cx (hd 0 v _ rfl rfl)).ext (ext_old hlt)
  have hgo := gok_ext (ext_old hlt) hg
  have hs : ∀ x ∈ X, ∀ s ∈ cpL x, smOk 100 k s = true := fun x hx s hsx => by
   obtain ⟨cc, sl, rfl, _, h2⟩ := cpOk_inv (hX2 x hx)
   exact h2 s hsx
  refine (spec_denM w v X d0 (by omega) (fun x hx => by
   obtain ⟨cc, sl, rfl, h1, h2⟩ := cpOk_inv (hX2 x hx)
   exact ⟨rfl, by show sl.length ≤ _; omega, fun s hsx => sm_isSm (h2 s hsx)⟩) (fun s => oneF (gOf spT) (sf s)) (fun x hx s hsx W u hB hu => ?_)).mono ?_
  ·have hcall := C1.callL hext (hone s (hs x hx s hsx))
   refine (callC hcall (vals := [u]) (gok_ext (ext_below hB) hgo) rfl (fun i v x h1 h2 => by
    match i with
    | 0 => simp at h1 h2; subst h1; subst h2; exact hu
    | i + 1 => simp at h1)).mono ?_
   rintro e w' ⟨⟨v, rfl, hv⟩, hb⟩
   exact ⟨by rw [den_sp (hv (fun _ => 0) fun _ _ => 0)], hb⟩
  ·rintro e w' ⟨rfl, hb⟩
   have e1 := spT_step hk hc
   rw [show cxL (cxD X) = X from rfl] at e1
   rw [← e1]
   exact ret_below (sp_den _ _ _) hlt hb
theorem spAll : ∀ k, k ≤ 45 → SpC k
 | 0, _ => sp_step (by decide) noExt noExt_ok fun s hs => by simp [smOk] at hs
 | k + 1, hk => by
  have ih := spAll k (by omega)
  letI : Rk := rkE (spE k) fun _ => False
  have hext : CallOK Tryz.prog (ext11b fun _ => false) := ext11b_ok0 (extR_ok (fun ns nm l n h => absurd h.2.2.2.2.2 id) (spE_ok ih))
  refine sp_step (by omega) _ hext fun s hs => ?_
  obtain ⟨e, _, _, _, h4⟩ := smOk_inv hs
  have h1 := great115_L (chk := fun _ => false) (sf s).of_ spT (by have := (lsOk_mem h4).1; omega) (fun c hc => by
   obtain ⟨l, rfl, _⟩ := cxOk_inv ((lsOk_mem h4).2 c hc)
   rfl) (fun c hc => callL_ext (ext_spec (by
    show (if cxOk 100 (smOk 100 k) c = true then some (sp3 (spT c), ([] : List Room), ([] : List Bx)) else none) = _
    rw [if_pos ((lsOk_mem h4).2 c hc)]
    rfl)))
  have h2 := one_L (chk := fun _ => false) (sf s) (gOf spT) [] h1
  rw [← e] at h2
  exact h2
structure SpA (R : Rk) : Prop where
 a : RowA R
 sp : ∀ c, cxOk 100 (smOk 100 45) c = true → R.r 48 [c] [] = some (sp3 (spT c), [], [])
theorem spA : SpA (rkE (spE 45) okA) :=
 ⟨rowA rfl, fun c hc => by
  show (if cxOk 100 (smOk 100 45) c = true then some (sp3 (spT c), ([] : List Room), ([] : List Bx)) else none) = _
  rw [if_pos hc]⟩
theorem spExt_ok : CallOK Tryz.prog (@ext11b (rkE (spE 45) okA) chkB) := ext12_ok (spE_ok (spAll 45 (Nat.le_refl _)))
theorem specA_L [R : Rk] (hA : SpA R) {chk : List D → Bool} {ns : List Nd} {nm : Nam} {l : List D} {k : Nat} (hk : k ≤ 45) (h1 : SmallD ns) (h2 : RightT ns) (h3 : nm.ok) (hl : lsOk 100 (smN k) l = true) (n : Int) (ps : List UInt8) :
  callL Tryz.prog (ext11b chk) 22 [treeN ns, .list l, .agg nm.cs, subD n ps] [] = some (.tuple [sp3 (specV (fun c => complexP ns nm c n ps) spT l).1, .bool (selV ns nm l n ps)], [.no, .no], []) := by
 obtain ⟨g1, g2⟩ := lsOk_mem hl
 have hcx : ∀ c ∈ l, cxOk 100 (smOk 100 45) c = true := fun c hc => cx_mono (fun d hd => smOk_up _ _ (smN_ok hd) 45 hk) (g2 c hc)
 exact mspec_L (chk := chk) ns nm l n ps (fun c => complexP ns nm c n ps) spT (by omega) (fun c hc => by
  obtain ⟨l1, rfl, _⟩ := cxOk_inv (g2 c hc)
  rfl) (fun c hc => by
  have := complex_L (chk := chk) (k := 44) ns nm c n ps h1 (hcx c hc) fun he => rowA_L hA.a h1 h2 h3 he (okA_of hk (g2 c hc))
  obtain ⟨l1, rfl, _⟩ := cxOk_inv (g2 c hc)
  exact this) (fun c hc => callL_ext (ext_spec (hA.sp c (hcx c hc))))
end Go.Av
namespace Go.Av
open Go.Proofs
theorem cnt_len {most : Int} (hm : 0 ≤ most) {f : Nat} {l : List D} (h : cnt most (f + 1) l 0 ≤ most) : (l.length : Int) ≤ most := by
 unfold cnt at h
 cases e : cntC (fun of_ => cnt most f of_ (0 + 1)) (badS 0) most l l.length with
 | none => rw [e] at h; simp at h; omega
 | some r =>
  rw [e] at h
  have := cntC_le (C := fun of_ => cnt most f of_ (0 + 1)) (fun l => cnt_nonneg hm f l _) _ _ _ e
  simp at h
  omega
theorem ls_app {m : Nat} {S : D → Bool} {a b : List D} (ha : lsOk m S a = true) (hb : lsOk m S b = true) (hl : a.length + b.length ≤ m) : lsOk m S (a ++ b) = true := by
 obtain ⟨_, h1⟩ := lsOk_mem ha
 obtain ⟨_, h2⟩ := lsOk_mem hb
 simp only [lsOk, lenB, Bool.and_eq_true, decide_eq_true_eq, List.all_eq_true, List.length_append]
 refine ⟨hl, fun c hc => ?_⟩
 rcases List.mem_append.1 hc with h | h
 ·exact h1 c h
 ·exact h2 c h
theorem sel_app (ns : List Nd) (nm : Nam) (a b : List D) (n : Int) (ps : List UInt8) : selV ns nm (a ++ b) n ps = (selV ns nm a n ps || selV ns nm b n ps) := by
 unfold selV
 rw [List.any_append]
theorem len_ls {m : Nat} {S : D → Bool} {l : List D} (h : lsOk m S l = true) : szOk 1 l = true := by
 obtain ⟨_, h1⟩ := lsOk_mem h
 cases l with
 | nil => rfl
 | cons c r =>
  have := h1 c (List.mem_cons_self ..)
  obtain ⟨x, rfl, _⟩ := cxOk_inv this
  rfl
variable [R : Rk]
set_option maxHeartbeats 8000000 in
theorem joined_law (hA : SpA R) {f1 f2 : Nat} (ns : List Nd) (a b : List D) (nm : Nam) (n : Int) (ps : List UInt8) (hB : BigD ns) (hl : lsOk 140737488355328 (smOk 140737488355328 f1) a = true) (hl2 : lsOk 140737488355328 (smOk 140737488355328 f2) b = true) (hn1 : nm.pre.length ≤ 140737488355328) (hn2 : nm.sps.length ≤ 140737488355328) :
  callL Tryz.prog (ext11b chkB) 7 [.list (ns.map Nd.d), .list a, .list b, .agg nm.cs, .agg [.int .i64 n, .str ps]] [] = some (.bool true, [.no], []) := by
 have h8 := sp8_L hA.a (chk := chkB)
 have h9 := rcheck_L (chk := chkB) ns hB
 have h10 := greatZ_L (chk := chkB) ns a nm hl hn1 hn2
 have h11 := greatZ_L (chk := chkB) ns b nm hl2 hn1 hn2
 by_cases c1 : greatZ ns f1 a nm = true
 ·rw [c1] at h10
  unfold Nam.cs at *
  generalize ns.map Nd.d = NS at *
  generalize chkF ns = z at *
  clear c1 hB hl hl2 hn1 hn2 h11
  refine callK (m := 116) (res := [10]) (rs := [.tmp 10]) rfl Tryz.func7 rfl rfl rfl rfl rfl ?_
  repeat' (first|simp only [*, AVB, AVY, ↓reduceIte, Nat.reduceEqDiff, Nat.reduceLT, reduceCtorEq, Nat.reduceBEq, Nat.reduceAdd]|refine drW_intro (by kernel_rfl) ?_|refine gw_intro (fun h => ?_) (fun h => ?_) <;> try simp only [AVH] at h)
 have c1 : greatZ ns f1 a nm = false := by simpa using c1
 rw [c1] at h10
 by_cases d1 : greatZ ns f2 b nm = true
 ·rw [d1] at h11
  unfold Nam.cs at *
  generalize ns.map Nd.d = NS at *
  generalize chkF ns = z at *
  clear c1 d1 hB hl hl2 hn1 hn2
  refine callK (m := 116) (res := [10]) (rs := [.tmp 10]) rfl Tryz.func7 rfl rfl rfl rfl rfl ?_
  repeat' (first|simp only [*, AVB, AVY, ↓reduceIte, Nat.reduceEqDiff, Nat.reduceLT, reduceCtorEq, Nat.reduceBEq, Nat.reduceAdd]|refine drW_intro (by kernel_rfl) ?_|refine gw_intro (fun h => ?_) (fun h => ?_) <;> try simp only [AVH] at h)
 have d1 : greatZ ns f2 b nm = false := by simpa using d1
 rw [d1] at h11
 by_cases e1 : (100 : Int) < ps.length
 ·unfold Nam.cs at *
  generalize ns.map Nd.d = NS at *
  generalize chkF ns = z at *
  clear c1 d1 hB hl hl2 hn1 hn2
  refine callK (m := 116) (res := [10]) (rs := [.tmp 10]) rfl Tryz.func7 rfl rfl rfl rfl rfl ?_
  repeat' (first|simp only [*, AVB, AVY, ↓reduceIte, Nat.reduceEqDiff, Nat.reduceLT, reduceCtorEq, Nat.reduceBEq, Nat.reduceAdd, dIntBin]|refine drW_intro (by kernel_rfl) ?_|refine gw_intro (fun h => ?_) (fun h => ?_) <;> try simp only [AVH] at h)
 by_cases c2 : (chkF ns).1 = 0
 ·have hz := chkF_z c2
  rw [hz] at h9
  unfold greatZ at c1 d1
  simp only [Bool.or_eq_false_iff, decide_eq_false_iff_not] at c1 d1
  obtain ⟨g1, g2, g3, g4⟩ := c1
  obtain ⟨_, k2, _, k4⟩ := d1
  have hS := great_smallD g1 (by decide)
  have hR := right_chk hz
  have hnm : nm.ok := by
   unfold gnF at g3
   simp only [Bool.or_eq_false_iff, decide_eq_false_iff_not] at g3
   exact ⟨by omega, by omega⟩
  have hla := cnt_len (f := f1) (l := a) (most := 24) (by decide) (by omega)
  have hlb := cnt_len (f := f2) (l := b) (most := 24) (by decide) (by omega)
  have hls : lsOk 100 (smN 41) a = true := ls_num 41 a (cnt_small (most := 24) (by decide) (by decide) f1 a 0 41 rfl hl (by have : cnt 24 (f1 + 1) a ((0 : Nat) : Int) = cnt 24 (f1 + 1) a 0 := rfl; omega)) g4
  have hls2 : lsOk 100 (smN 41) b = true := ls_num 41 b (cnt_small (most := 24) (by decide) (by decide) f2 b 0 41 rfl hl2 (by have : cnt 24 (f2 + 1) b ((0 : Nat) : Int) = cnt 24 (f2 + 1) b 0 := rfl; omega)) k4
  have hls3 := ls_app hls hls2 (by omega)
  have h12 := new_L hS hz
  have q1 : callL Tryz.prog (ext11b chkB) 22 [treeN ns, .list a, .agg nm.cs, .agg [.int .i64 n, .str ps]] [] = _ := specA_L hA (k := 41) (by decide) hS hR hnm hls n ps
  have q2 : callL Tryz.prog (ext11b chkB) 22 [treeN ns, .list b, .agg nm.cs, .agg [.int .i64 n, .str ps]] [] = _ := specA_L hA (k := 41) (by decide) hS hR hnm hls2 n ps
  have q3 : callL Tryz.prog (ext11b chkB) 22 [treeN ns, .list (a ++ b), .agg nm.cs, .agg [.int .i64 n, .str ps]] [] = _ := specA_L hA (k := 41) (by decide) hS hR hnm hls3 n ps
  have q4 : callL Tryz.prog (ext11b chkB) 14 [treeN ns, .list (a ++ b), .agg nm.cs, .agg [.int .i64 n, .str ps]] [] = _ := selA_L hA.a (k := 41) (by decide) hS hR hnm hls3 n ps
  have hsa := len_ls hls
  have hsb := len_ls hls2
  have hsab := len_ls hls3
  have lab : (a.length : Int) + b.length ≤ 48 := by omega
  rw [specV_app] at q3
  rw [sel_app] at q3 q4
  generalize (specV (fun c => complexP ns nm c n ps) spT a).1 = x at *
  generalize (specV (fun c => complexP ns nm c n ps) spT b).1 = y at *
  generalize selV ns nm a n ps = p at *
  generalize selV ns nm b n ps = q at *
  obtain ⟨x0, x1, x2⟩ := x
  obtain ⟨y0, y1, y2⟩ := y
  have hle := rless_L (chk := chkB) x0 x1 x2 y0 y1 y2
  have hlt := less_T (x0, x1, x2) (y0, y1, y2)
  dsimp only at hlt
  rw [hlt] at hle
  rw [mx_T] at q3
  clear hlt
  unfold Nam.cs sp3 at *
  obtain ⟨T, hTr⟩ := tree_fix ns
  generalize treeN ns = T0 at *
  subst hTr
  generalize ns.map Nd.d = NS at *
  dsimp only at q1 q2
  have la : a.length ≤ 100 := by omega
  have lb : b.length ≤ 100 := by omega
  have w1 : lenOk a.length 24 = true := by unfold lenOk; simp; omega
  have w2 : lenOk (a.length + b.length) 24 = true := by unfold lenOk; simp; omega
  clear hB hl hl2 hn1 hn2 c2 hz g1 g2 g3 g4 k2 k4 hS hR hnm hls hls2 hls3 hla hlb
  cases hv : lessT (x0, x1, x2) (y0, y1, y2) with
  | true =>
   rw [hv] at hle q3
   rw [if_pos rfl] at q3
   dsimp only at q3
   clear hv
   cases p <;> cases q
   all_goals
    refine callK (m := 116) (res := [10]) (rs := [.tmp 10]) rfl Tryz.func7 rfl rfl rfl rfl rfl ?_
    repeat' (first|simp only [*, AVB, AVY, Yq.AVQ, ↓reduceIte, Nat.reduceEqDiff, Nat.reduceLT, Nat.reduceLeDiff, reduceCtorEq, Nat.reduceBEq, Nat.reduceAdd, Int.reduceBNe, dIntBin]|refine drW_intro (by kernel_rfl) ?_|refine gw_intro (fun h => ?_) (fun h => ?_) <;> try simp only [AVH] at h)
  | false =>
   rw [hv] at hle q3
   rw [if_neg (by decide)] at q3
   dsimp only at q3
   clear hv
   cases p <;> cases q
   all_goals
    refine callK (m := 116) (res := [10]) (rs := [.tmp 10]) rfl Tryz.func7 rfl rfl rfl rfl rfl ?_
    repeat' (first|simp only [*, AVB, AVY, Yq.AVQ, ↓reduceIte, Nat.reduceEqDiff, Nat.reduceLT, Nat.reduceLeDiff, reduceCtorEq, Nat.reduceBEq, Nat.reduceAdd, Int.reduceBNe, dIntBin]|refine drW_intro (by kernel_rfl) ?_|refine gw_intro (fun h => ?_) (fun h => ?_) <;> try simp only [AVH] at h)
 ·obtain ⟨j1, j2, j3⟩ := neI c2
  unfold Nam.cs at *
  generalize ns.map Nd.d = NS at *
  generalize chkF ns = z at *
  clear c1 d1 c2 hB hl hl2 hn1 hn2
  refine callK (m := 116) (res := [10]) (rs := [.tmp 10]) rfl Tryz.func7 rfl rfl rfl rfl rfl ?_
  repeat' (first|simp only [*, AVB, AVY, ↓reduceIte, Nat.reduceEqDiff, Nat.reduceLT, reduceCtorEq, Nat.reduceBEq, Nat.reduceAdd, dIntBin]|refine drW_intro (by kernel_rfl) ?_|refine gw_intro (fun h => ?_) (fun h => ?_) <;> try simp only [AVH] at h)
end Go.Av
