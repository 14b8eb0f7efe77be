/- The evaluator, in one text: over any program; no conditions but those that each law names. -/
import Derived.Test.YtcogfddcdpgpkaaGreatDoorAvuf
import Derived.Test.YtcogfddcdpgpkaaGreatDoorAvuc
import Derived.Test.YtcogfddcdpgpkaaGreatDoorAvud
import Derived.Test.YtcogfddcdpgpkaaGreatDoorRows
import Derived.Test.YtcogfddcdpgpkaaGreatDoorTie
import Derived.Test.YtcogfddcdpgpkaaGreatDoorAvb
import Derived.Shelf.Vars
import Derived.Test.YtcogfddcdpgpkaaGreatDoorAvua
import Derived.Test.YtcogfddcdpgpkaaGreatDoorAvub
import Derived.Test.YtcogfddcdpgpkaaGreatDoorAvue
set_option linter.unusedSimpArgs false
set_option linter.unusedVariables false
set_option linter.unusedSectionVars false
set_option maxRecDepth 100000
namespace Go.Av
open Go.Proofs
variable [Rk] {chk : List D → Bool}
theorem drop_at {α : Type} {xs : List α} {i : Nat} {x : α} (hx : xs[i]? = some x) : xs.drop i = x :: xs.drop (i + 1) := by
 have h1 : i < xs.length := (List.getElem?_eq_some_iff.1 hx).1
 have e1 : xs[i] = x := (List.getElem?_eq_some_iff.1 hx).2
 rw [List.drop_eq_getElem_cons h1, e1]
theorem self_getD {l : List D} {i : Nat} {x : D} (h : l[i]? = some x) : l.getD i .bad = x := by simp [List.getD, h]
structure CntH (prog : Prop → Prop) (C : List D → Int) (call : List D → Prop) (s : D) : Prop where
 d : s = .agg [.int .i64 (sf s).kd, .int .i64 (sf s).ns, .str (sf s).pre, .str (sf s).nm, .int .i64 (sf s).op, .str (sf s).tx, .bool (sf s).fold, .int .i64 (sf s).mark, .int .i64 (sf s).a, .int .i64 (sf s).b, .list (sf s).of_]
 c : call (sf s).of_
 lo : 0 ≤ C (sf s).of_
 hi : C (sf s).of_ ≤ 1125899906842624
set_option maxHeartbeats 16000000 in
theorem count_step (C : List D → Int) (most deep : Int) (hm : 0 ≤ most ∧ most ≤ 1000) (hd : 0 ≤ deep ∧ deep ≤ 1000000) (l : List D) (hl : l.length ≤ 140737488355328)
  (hL : ∀ c ∈ l, c = .agg [.list (cxL c)] ∧ (cxL c).length ≤ 140737488355328 ∧ ∀ x ∈ cxL c, x = .agg [.int .i64 (cpC x), .list (cpL x)] ∧ (cpL x).length ≤ 140737488355328 ∧ ∀ s ∈ cpL x,
   CntH id C (fun o => deep ≤ 40 → callL Tryz.prog (ext11b chk) 55 [.list o, .int .i64 most, .int .i64 (deep + 1)] [] = some (.int .i64 (C o), [.no], [])) s) :
  callL Tryz.prog (ext11b chk) 55 [.list l, .int .i64 most, .int .i64 deep] [] = some (.int .i64 ((cntC C (badS deep) most l l.length).getD (most + 1)), [.no], []) := by
 have HL := Hd.mk hL
 have HM := Hd.mk hm
 have HD := Hd.mk hd
 have HN := Hd.mk hl
 clear hL hm hd hl
 obtain ⟨R, hR⟩ : ∃ R, Hd (R = (cntC C (badS deep) most l l.length).getD (most + 1)) := ⟨_, rfl⟩
 rw [← (show R = (cntC C (badS deep) most l l.length).getD (most + 1) from hR)]
 refine callK (m := 114) (res := [6]) (rs := [.tmp 6]) rfl Tryz.func55 rfl rfl rfl rfl rfl ?_
 repeat' (first|simp only [*, AVB, AVY, ↓reduceIte, Nat.reduceLT, reduceCtorEq, Nat.reduceBEq]|refine drW_intro (by kernel_rfl) ?_|refine gw_intro (fun h => ?_) (fun h => ?_) <;> try simp only [AVH] at h)
 refine loopH (fun st => ∃ (i : Nat) (n : Int), i ≤ l.length ∧ st.slot 8 = .int .i64 i ∧ st.slot 0 = .list l ∧ st.slot 1 = .int .i64 most ∧ st.slot 2 = .int .i64 deep ∧ st.slot 7 = .int .i64 n ∧ st.room 7 = [] ∧ Hd (0 ≤ n ∧ n ≤ 1125899906852624) ∧ Hd (R = (cntC C (badS deep) most (l.drop i) n).getD (most + 1))) (fun st => l.length - slotI st 8) ?_ ?_
 ·have hl : l.length ≤ 140737488355328 := HN
  refine ⟨0, (l.length : Int), Nat.zero_le _, ?_, ?_, ?_, ?_, ?_, ?_, Hd.mk ⟨by omega, by omega⟩, hR⟩
  all_goals simp only [*, AVB, ↓reduceIte, Nat.reduceEqDiff, reduceCtorEq]
  all_goals rfl
 ·rintro st K ⟨i, n, hi, g8, g0, g1, g2, g7, gr, hnn, hO⟩ hn hx hr
  have hl : l.length ≤ 140737488355328 := HN
  have hO' : R = (cntC C (badS deep) most (l.drop i) n).getD (most + 1) := hO
  by_cases h : i < l.length
  ·have g9 : (i : Int) < l.length := by omega
   have hw := wrapS i (by omega)
   obtain ⟨c, hc1⟩ := some_at h
   rw [drop_at hc1, cntC] at hO'
   by_cases h2 : n ≤ most
   ·rw [if_pos h2] at hO'
    obtain ⟨e1, hx1, hX⟩ := (show ∀ c ∈ l, _ from HL) c (List.mem_of_getElem? hc1)
    have ha := (self_getD hc1).trans e1
    generalize cxL c = X at *
    obtain ⟨m1, m2⟩ := (show 0 ≤ most ∧ most ≤ 1000 from HM)
    obtain ⟨n1, n2⟩ := (show 0 ≤ n ∧ n ≤ 1125899906852624 from hnn)
    obtain ⟨n0, hn0⟩ : ∃ n0 : Int, n + (X.length : Int) = n0 := ⟨_, rfl⟩
    have hw2 : IntKind.i64.wrap (n + (X.length : Int)) = n0 := by rw [hn0]; exact wrap64 _ (by omega) (by omega)
    rw [hn0] at hO'
    have HI := Hd.mk h
    have HX := Hd.mk hX
    have HO := Hd.mk hO'
    have HX1 := Hd.mk hx1
    have HB : Hd (0 ≤ n0 ∧ n0 ≤ 1125899906852624) := Hd.mk ⟨by omega, by omega⟩
    clear hn0 hl hO hO' hx hX hc1 e1 hx1 h m1 m2 n1 n2 hnn hR
    repeat' (first|simp only [*, AVB, AVY, ↓reduceIte, Nat.reduceEqDiff, Nat.reduceLT, reduceCtorEq, Nat.reduceBEq, dIntBin]|refine drW_intro (by kernel_rfl) ?_|refine gw_intro (fun h => ?_) (fun h => ?_) <;> try simp only [AVH] at h)
    clear h2
    refine loopH (fun st' => ∃ (k : Nat) (n : Int), k ≤ X.length ∧ st'.slot 9 = .int .i64 k ∧ st'.slot 8 = .int .i64 i ∧ st'.slot 0 = .list l ∧ st'.slot 1 = .int .i64 most ∧ st'.slot 2 = .int .i64 deep ∧ st'.slot 7 = .int .i64 n ∧ st'.room 7 = [] ∧ Hd (0 ≤ n ∧ n ≤ 1125899906852624) ∧ Hd (R = ((cntP C (badS deep) most (X.drop k) n).bind (cntC C (badS deep) most (l.drop (i + 1)))).getD (most + 1))) (fun st' => X.length - slotI st' 9) ?_ ?_
    ·refine ⟨0, n0, Nat.zero_le _, ?_, ?_, ?_, ?_, ?_, ?_, ?_, HB, HO⟩
     all_goals simp only [*, AVB, ↓reduceIte, Nat.reduceEqDiff, reduceCtorEq]
     all_goals rfl
    ·rintro st' K' ⟨k, n, hk, e9, e8, e0, e1, e2, e7, er, hnn, hO⟩ hn2 hx2 hr2
     have G8 := Hd.mk g8
     clear g0 g1 g2 g7 g8 gr HO hw2
     have hxl : X.length ≤ 140737488355328 := HX1
     have hO' : R = ((cntP C (badS deep) most (X.drop k) n).bind (cntC C (badS deep) most (l.drop (i + 1)))).getD (most + 1) := hO
     by_cases h : k < X.length
     ·have g10 : (k : Int) < X.length := by omega
      have hw3 := wrapS k (by omega)
      obtain ⟨x, hx1⟩ := some_at h
      rw [drop_at hx1, cntP] at hO'
      by_cases h2 : n ≤ most
      ·rw [if_pos h2] at hO'
       obtain ⟨f1, f2, hS⟩ := (show ∀ x ∈ X, _ from HX) x (List.mem_of_getElem? hx1)
       have hb := (self_getD hx1).trans f1
       generalize cpL x = Y at *
       generalize cpC x = cc at *
       have HK := Hd.mk h
       have HS := Hd.mk hS
       have HO := Hd.mk hO'
       have HY1 := Hd.mk f2
       have HN0 := hnn
       clear hO hO' hx2 hS hx1 f1 f2 h hxl hnn hn
       repeat' (first|simp only [*, AVB, AVY, ↓reduceIte, Nat.reduceEqDiff, Nat.reduceLT, reduceCtorEq, Nat.reduceBEq, Nat.reduceAdd, dIntBin]|refine drW_intro (by kernel_rfl) ?_|refine gw_intro (fun h => ?_) (fun h => ?_) <;> try simp only [AVH] at h)
       clear h2
       refine loopH (fun st2 => ∃ (m : Nat) (n : Int), m ≤ Y.length ∧ st2.slot 11 = .int .i64 m ∧ st2.slot 10 = .list Y ∧ st2.slot 9 = .int .i64 k ∧ st2.slot 8 = .int .i64 i ∧ st2.slot 0 = .list l ∧ st2.slot 1 = .int .i64 most ∧ st2.slot 2 = .int .i64 deep ∧ st2.slot 7 = .int .i64 n ∧ st2.room 7 = [] ∧ Hd (0 ≤ n ∧ n ≤ 1125899906852624) ∧ Hd (R = (((cntX C (badS deep) most (Y.drop m) n).bind (cntP C (badS deep) most (X.drop (k + 1)))).bind (cntC C (badS deep) most (l.drop (i + 1)))).getD (most + 1))) (fun st2 => Y.length - slotI st2 11) ?_ ?_
       ·refine ⟨0, n, Nat.zero_le _, ?_, ?_, ?_, ?_, ?_, ?_, ?_, ?_, ?_, HN0, HO⟩
        all_goals simp only [*, AVB, ↓reduceIte, Nat.reduceEqDiff, reduceCtorEq]
        all_goals rfl
       ·rintro st2 K2 ⟨m, n, hmm, u11, u10, u9, u8, u0, u1, u2, u7, ur, hnn, hO⟩ hn3 hx3 hr3
        have E9 := Hd.mk e9
        clear e0 e1 e2 e7 e8 e9 er HO HN0
        have hyl : Y.length ≤ 140737488355328 := HY1
        have hO' : R = (((cntX C (badS deep) most (Y.drop m) n).bind (cntP C (badS deep) most (X.drop (k + 1)))).bind (cntC C (badS deep) most (l.drop (i + 1)))).getD (most + 1) := hO
        by_cases h : m < Y.length
        ·have g11 : (m : Int) < Y.length := by omega
         have hw4 := wrapS m (by omega)
         obtain ⟨s, hs1⟩ := some_at h
         rw [drop_at hs1, cntX] at hO'
         by_cases h2 : n ≤ most
         ·rw [if_pos h2] at hO'
          obtain ⟨q1, q2, q3, q4⟩ := (show ∀ s ∈ Y, _ from HS) s (List.mem_of_getElem? hs1)
          have hz := (self_getD hs1).trans q1
          have hbad : badS deep s = (decide (100 < ((sf s).nm.length : Int)) || (decide (100 < ((sf s).pre.length : Int)) || (decide (100 < ((sf s).tx.length : Int)) || decide (40 < deep)))) := rfl
          rw [hbad] at hO'
          clear hbad
          generalize sf s = S at *
          obtain ⟨m1, m2⟩ := (show 0 ≤ most ∧ most ≤ 1000 from HM)
          obtain ⟨d1, d2⟩ := (show 0 ≤ deep ∧ deep ≤ 1000000 from HD)
          obtain ⟨n1, n2⟩ := (show 0 ≤ n ∧ n ≤ 1125899906852624 from hnn)
          have hw5 : IntKind.i64.wrap (n + 1) = n + 1 := wrap64 _ (by omega) (by omega)
          have hw6 : IntKind.i64.wrap (most + 1) = most + 1 := wrap64 _ (by omega) (by omega)
          have hw7 : IntKind.i64.wrap (deep + 1) = deep + 1 := wrap64 _ (by omega) (by omega)
          have HM0 := Hd.mk h
          clear hO hx3 hs1 q1 h hyl hnn
          by_cases c1 : (100 : Int) < (S.nm.length : Int)
          ·rw [decide_eq_true c1, Bool.true_or, if_pos rfl] at hO'
           have hO2 : R = most + 1 := hO'
           subst hO2
           clear hn3 hn2 hO' m1 m2 d1 d2 n1 n2 q2 q3 q4
           repeat' (first|simp only [*, AVB, AVY, ↓reduceIte, Nat.reduceEqDiff, Nat.reduceLT, Nat.reduceBEq, Nat.reduceAdd, dIntBin]|refine drW_intro (by kernel_rfl) ?_|refine gw_intro (fun h => ?_) (fun h => ?_) <;> try simp only [AVH] at h)
           refine hr3 _ ?_
           refine hr2 _ ?_
           refine hr _ ?_
           repeat' (first|simp only [*, AVB, ↓reduceIte]|refine drW_intro (by kernel_rfl) ?_|refine gw_intro (fun h => ?_) (fun h => ?_) <;> try simp only [AVH] at h)
          rw [decide_eq_false c1, Bool.false_or] at hO'
          by_cases c2 : (100 : Int) < (S.pre.length : Int)
          ·rw [decide_eq_true c2, Bool.true_or, if_pos rfl] at hO'
           have hO2 : R = most + 1 := hO'
           subst hO2
           clear hn3 hn2 hO' m1 m2 d1 d2 n1 n2 q2 q3 q4
           repeat' (first|simp only [*, AVB, AVY, ↓reduceIte, Nat.reduceEqDiff, Nat.reduceLT, Nat.reduceBEq, Nat.reduceAdd, dIntBin]|refine drW_intro (by kernel_rfl) ?_|refine gw_intro (fun h => ?_) (fun h => ?_) <;> try simp only [AVH] at h)
           refine hr3 _ ?_
           refine hr2 _ ?_
           refine hr _ ?_
           repeat' (first|simp only [*, AVB, ↓reduceIte]|refine drW_intro (by kernel_rfl) ?_|refine gw_intro (fun h => ?_) (fun h => ?_) <;> try simp only [AVH] at h)
          rw [decide_eq_false c2, Bool.false_or] at hO'
          by_cases c3 : (100 : Int) < (S.tx.length : Int)
          ·rw [decide_eq_true c3, Bool.true_or, if_pos rfl] at hO'
           have hO2 : R = most + 1 := hO'
           subst hO2
           clear hn3 hn2 hO' m1 m2 d1 d2 n1 n2 q2 q3 q4
           repeat' (first|simp only [*, AVB, AVY, ↓reduceIte, Nat.reduceEqDiff, Nat.reduceLT, Nat.reduceBEq, Nat.reduceAdd, dIntBin]|refine drW_intro (by kernel_rfl) ?_|refine gw_intro (fun h => ?_) (fun h => ?_) <;> try simp only [AVH] at h)
           refine hr3 _ ?_
           refine hr2 _ ?_
           refine hr _ ?_
           repeat' (first|simp only [*, AVB, ↓reduceIte]|refine drW_intro (by kernel_rfl) ?_|refine gw_intro (fun h => ?_) (fun h => ?_) <;> try simp only [AVH] at h)
          rw [decide_eq_false c3, Bool.false_or] at hO'
          by_cases c4 : (40 : Int) < deep
          ·rw [decide_eq_true c4, if_pos rfl] at hO'
           have hO2 : R = most + 1 := hO'
           subst hO2
           clear hn3 hn2 hO' m1 m2 d1 d2 n1 n2 q2 q3 q4
           repeat' (first|simp only [*, AVB, AVY, ↓reduceIte, Nat.reduceEqDiff, Nat.reduceLT, Nat.reduceBEq, Nat.reduceAdd, dIntBin]|refine drW_intro (by kernel_rfl) ?_|refine gw_intro (fun h => ?_) (fun h => ?_) <;> try simp only [AVH] at h)
           refine hr3 _ ?_
           refine hr2 _ ?_
           refine hr _ ?_
           repeat' (first|simp only [*, AVB, ↓reduceIte]|refine drW_intro (by kernel_rfl) ?_|refine gw_intro (fun h => ?_) (fun h => ?_) <;> try simp only [AVH] at h)
          rw [decide_eq_false c4, if_neg (by decide)] at hO'
          have hcall := q2 (by omega)
          have hw8 : IntKind.i64.wrap (n + 1 + C S.of_) = n + 1 + C S.of_ := wrap64 _ (by omega) (by omega)
          have HB : Hd (0 ≤ n + 1 + C S.of_ ∧ n + 1 + C S.of_ ≤ 1125899906852624) := Hd.mk ⟨by omega, by omega⟩
          have HO2 := Hd.mk hO'
          clear hO' hr3 hn2 hr2 hr m1 m2 d1 d2 n1 n2 q2 q3 q4
          repeat' (first|simp only [*, AVB, AVY, ↓reduceIte, Nat.reduceEqDiff, Nat.reduceLT, Nat.reduceBEq, Nat.reduceAdd, dIntBin]|refine drW_intro (by kernel_rfl) ?_|refine gw_intro (fun h => ?_) (fun h => ?_) <;> try simp only [AVH] at h)
          refine hn3 _ ⟨m + 1, n + 1 + C S.of_, HM0, ?_, ?_, ?_, ?_, ?_, ?_, ?_, ?_, ?_, HB, HO2⟩ ?_
          ·simp only [*, AVL, ↓reduceIte]
          ·simp only [*, AVL, ↓reduceIte, Nat.reduceEqDiff]
          ·simp only [*, AVL, ↓reduceIte, Nat.reduceEqDiff]
          ·simp only [*, AVL, ↓reduceIte, Nat.reduceEqDiff]
          ·simp only [*, AVL, ↓reduceIte, reduceCtorEq]
          ·simp only [*, AVL, ↓reduceIte, Nat.reduceEqDiff]
          ·simp only [*, AVL, ↓reduceIte, Nat.reduceEqDiff]
          ·simp only [*, AVL, ↓reduceIte, Nat.reduceEqDiff]
          ·simp only [*, AVL, ↓reduceIte, Nat.reduceEqDiff]
          ·have hm2 : m < Y.length := HM0
           simp only [slotI, *, AVB, ↓reduceIte]
           omega
         ·rw [if_neg h2, Option.bind_some] at hO'
          have HO2 := Hd.mk hO'
          clear hO hO' hr3 hn3 hr2 hr hs1 hyl h
          repeat' (first|simp only [*, AVB, AVY, ↓reduceIte, Nat.reduceEqDiff, Nat.reduceLT, Nat.reduceBEq, dIntBin]|refine drW_intro (by kernel_rfl) ?_|refine gw_intro (fun h => ?_) (fun h => ?_) <;> try simp only [AVH] at h)
          refine hx3 _ _ ?_
          repeat' (first|simp only [*, AVB, ↓reduceIte, Nat.reduceEqDiff, Nat.reduceLT, Nat.reduceBEq, dIntBin]|refine drW_intro (by kernel_rfl) ?_|refine gw_intro (fun h => ?_) (fun h => ?_) <;> try simp only [AVH] at h)
          have hk2 : k < X.length := HK
          refine hn2 _ ⟨k + 1, n, hk2, ?_, ?_, ?_, ?_, ?_, ?_, ?_, hnn, HO2⟩ ?_
          ·simp only [*, AVL, ↓reduceIte]
          ·simp only [*, AVL, ↓reduceIte, Nat.reduceEqDiff]
          ·simp only [*, AVL, ↓reduceIte, reduceCtorEq]
          ·simp only [*, AVL, ↓reduceIte, Nat.reduceEqDiff]
          ·simp only [*, AVL, ↓reduceIte, Nat.reduceEqDiff]
          ·simp only [*, AVL, ↓reduceIte, Nat.reduceEqDiff]
          ·simp only [*, AVL, ↓reduceIte, Nat.reduceEqDiff]
          ·have e9 : st'.slot 9 = .int .i64 k := E9
           simp only [slotI, *, AVB, ↓reduceIte]
           omega
        ·have g11 : ¬ (m : Int) < Y.length := by omega
         rw [List.drop_eq_nil_of_le (by omega), cntX, Option.bind_some] at hO'
         have HO2 := Hd.mk hO'
         clear hO hO' hr3 hn3 hr2 hr hyl h
         repeat' (first|simp only [*, AVB, AVY, ↓reduceIte, Nat.reduceEqDiff, Nat.reduceLT, Nat.reduceBEq, dIntBin]|refine drW_intro (by kernel_rfl) ?_|refine gw_intro (fun h => ?_) (fun h => ?_) <;> try simp only [AVH] at h)
         refine hx3 _ _ ?_
         repeat' (first|simp only [*, AVB, ↓reduceIte, Nat.reduceEqDiff, Nat.reduceLT, Nat.reduceBEq, dIntBin]|refine drW_intro (by kernel_rfl) ?_|refine gw_intro (fun h => ?_) (fun h => ?_) <;> try simp only [AVH] at h)
         have hk2 : k < X.length := HK
         refine hn2 _ ⟨k + 1, n, hk2, ?_, ?_, ?_, ?_, ?_, ?_, ?_, hnn, HO2⟩ ?_
         ·simp only [*, AVL, ↓reduceIte]
         ·simp only [*, AVL, ↓reduceIte, Nat.reduceEqDiff]
         ·simp only [*, AVL, ↓reduceIte, reduceCtorEq]
         ·simp only [*, AVL, ↓reduceIte, Nat.reduceEqDiff]
         ·simp only [*, AVL, ↓reduceIte, Nat.reduceEqDiff]
         ·simp only [*, AVL, ↓reduceIte, Nat.reduceEqDiff]
         ·simp only [*, AVL, ↓reduceIte, Nat.reduceEqDiff]
         ·have e9 : st'.slot 9 = .int .i64 k := E9
          simp only [slotI, *, AVB, ↓reduceIte]
          omega
      ·rw [if_neg h2, Option.bind_some] at hO'
       have HO2 := Hd.mk hO'
       clear hO hO' hr2 hn2 hx1 hxl h hr
       repeat' (first|simp only [*, AVB, AVY, ↓reduceIte, Nat.reduceEqDiff, Nat.reduceLT, reduceCtorEq, Nat.reduceBEq, dIntBin]|refine drW_intro (by kernel_rfl) ?_|refine gw_intro (fun h => ?_) (fun h => ?_) <;> try simp only [AVH] at h)
       refine hx2 _ _ ?_
       repeat' (first|simp only [*, AVB, ↓reduceIte, Nat.reduceEqDiff, Nat.reduceLT, Nat.reduceBEq, dIntBin]|refine drW_intro (by kernel_rfl) ?_|refine gw_intro (fun h => ?_) (fun h => ?_) <;> try simp only [AVH] at h)
       have hi2 : i < l.length := HI
       refine hn _ ⟨i + 1, n, hi2, ?_, ?_, ?_, ?_, ?_, ?_, hnn, HO2⟩ ?_
       ·simp only [*, AVL, ↓reduceIte]
       ·simp only [*, AVL, ↓reduceIte, reduceCtorEq]
       ·simp only [*, AVL, ↓reduceIte, Nat.reduceEqDiff]
       ·simp only [*, AVL, ↓reduceIte, Nat.reduceEqDiff]
       ·simp only [*, AVL, ↓reduceIte, Nat.reduceEqDiff]
       ·simp only [*, AVL, ↓reduceIte, Nat.reduceEqDiff]
       ·have g8 : st.slot 8 = .int .i64 i := G8
        simp only [slotI, *, AVB, ↓reduceIte]
        omega
     ·have g10 : ¬ (k : Int) < X.length := by omega
      rw [List.drop_eq_nil_of_le (by omega), cntP, Option.bind_some] at hO'
      have HO2 := Hd.mk hO'
      clear hO hO' hr2 hn2 hxl h hr
      repeat' (first|simp only [*, AVB, AVY, ↓reduceIte, Nat.reduceEqDiff, Nat.reduceLT, reduceCtorEq, Nat.reduceBEq, dIntBin]|refine drW_intro (by kernel_rfl) ?_|refine gw_intro (fun h => ?_) (fun h => ?_) <;> try simp only [AVH] at h)
      refine hx2 _ _ ?_
      repeat' (first|simp only [*, AVB, ↓reduceIte, Nat.reduceEqDiff, Nat.reduceLT, Nat.reduceBEq, dIntBin]|refine drW_intro (by kernel_rfl) ?_|refine gw_intro (fun h => ?_) (fun h => ?_) <;> try simp only [AVH] at h)
      have hi2 : i < l.length := HI
      refine hn _ ⟨i + 1, n, hi2, ?_, ?_, ?_, ?_, ?_, ?_, hnn, HO2⟩ ?_
      ·simp only [*, AVL, ↓reduceIte]
      ·simp only [*, AVL, ↓reduceIte, reduceCtorEq]
      ·simp only [*, AVL, ↓reduceIte, Nat.reduceEqDiff]
      ·simp only [*, AVL, ↓reduceIte, Nat.reduceEqDiff]
      ·simp only [*, AVL, ↓reduceIte, Nat.reduceEqDiff]
      ·simp only [*, AVL, ↓reduceIte, Nat.reduceEqDiff]
      ·have g8 : st.slot 8 = .int .i64 i := G8
       simp only [slotI, *, AVB, ↓reduceIte]
       omega
   ·rw [if_neg h2] at hO'
    have hO2 : R = n := hO'
    subst hO2
    clear hO hO' hn hr hl hR hc1 h hw
    repeat' (first|simp only [*, AVB, AVY, ↓reduceIte, Nat.reduceEqDiff, Nat.reduceLT, reduceCtorEq, Nat.reduceBEq, dIntBin]|refine drW_intro (by kernel_rfl) ?_|refine gw_intro (fun h => ?_) (fun h => ?_) <;> try simp only [AVH] at h)
    refine hx _ _ ?_
    repeat' (first|simp only [*, AVB, ↓reduceIte, Nat.reduceEqDiff, Nat.reduceLT, Nat.reduceBEq]|refine drW_intro (by kernel_rfl) ?_|refine gw_intro (fun h => ?_) (fun h => ?_) <;> try simp only [AVH] at h)
  ·have g9 : ¬ (i : Int) < l.length := by omega
   rw [List.drop_eq_nil_of_le (by omega), cntC] at hO'
   have hO2 : R = n := hO'
   subst hO2
   clear hO hO' hn hr hl hR h
   repeat' (first|simp only [*, AVB, AVY, ↓reduceIte, Nat.reduceEqDiff, Nat.reduceLT, reduceCtorEq, Nat.reduceBEq, dIntBin]|refine drW_intro (by kernel_rfl) ?_|refine gw_intro (fun h => ?_) (fun h => ?_) <;> try simp only [AVH] at h)
   refine hx _ _ ?_
   repeat' (first|simp only [*, AVB, ↓reduceIte, Nat.reduceEqDiff, Nat.reduceLT, Nat.reduceBEq]|refine drW_intro (by kernel_rfl) ?_|refine gw_intro (fun h => ?_) (fun h => ?_) <;> try simp only [AVH] at h)
end Go.Av
namespace Go.Av
open Go.Proofs
section
variable {C : List D → Int} {bad : D → Bool} {most B M : Int}
theorem cntX_bd : ∀ (x : List D) (n r : Int), (∀ s ∈ x, bad s = false → C (sf s).of_ ≤ B) → cntX C bad most x n = some r → r ≤ max n (most + 1 + B)
 | [], n, r, _, h => by simp only [cntX, Option.some.injEq] at h; omega
 | s :: x, n, r, hC, h => by
  rw [cntX] at h
  split at h
  ·split at h
   ·cases h
   ·rename_i h1 h2
    have h3 := hC s (List.mem_cons_self ..) (by simpa using h2)
    have h4 := cntX_bd x _ r (fun s hs => hC s (List.mem_cons_of_mem _ hs)) h
    omega
  ·simp only [Option.some.injEq] at h; omega
theorem cntP_bd : ∀ (x : List D) (n r : Int), (∀ c ∈ x, ∀ s ∈ cpL c, bad s = false → C (sf s).of_ ≤ B) → cntP C bad most x n = some r → r ≤ max n (most + 1 + B)
 | [], n, r, _, h => by simp only [cntP, Option.some.injEq] at h; omega
 | c :: x, n, r, hC, h => by
  rw [cntP] at h
  split at h
  ·cases e : cntX C bad most (cpL c) n with
   | none => rw [e] at h; cases h
   | some q =>
    rw [e] at h
    have h1 := cntX_bd _ _ _ (hC c (List.mem_cons_self ..)) e
    have h2 := cntP_bd x q r (fun c hc => hC c (List.mem_cons_of_mem _ hc)) h
    omega
  ·simp only [Option.some.injEq] at h; omega
theorem cntC_bd : ∀ (x : List D) (n r : Int), (∀ d ∈ x, ((cxL d).length : Int) ≤ M) → (∀ d ∈ x, ∀ c ∈ cxL d, ∀ s ∈ cpL c, bad s = false → C (sf s).of_ ≤ B) → cntC C bad most x n = some r → r ≤ max n (max (most + M) (most + 1 + B))
 | [], n, r, _, _, h => by simp only [cntC, Option.some.injEq] at h; omega
 | d :: x, n, r, hM, hC, h => by
  rw [cntC] at h
  split at h
  ·cases e : cntP C bad most (cxL d) (n + (cxL d).length) with
   | none => rw [e] at h; cases h
   | some q =>
    rw [e] at h
    have h0 := hM d (List.mem_cons_self ..)
    have h1 := cntP_bd _ _ _ (hC d (List.mem_cons_self ..)) e
    have h2 := cntC_bd x q r (fun c hc => hM c (List.mem_cons_of_mem _ hc)) (fun c hc => hC c (List.mem_cons_of_mem _ hc)) h
    omega
  ·simp only [Option.some.injEq] at h; omega
end
theorem cnt_bd {most : Int} (hm : 0 ≤ most) {m : Nat} : ∀ (f : Nat) (d : Nat) (l : List D), lsOk m (smOk m f) l = true → cnt most (f + 1) l d ≤ m + (most + 2) * (((41 - d : Nat) : Int) + 1)
 | f, d, l, h => by
  unfold cnt
  obtain ⟨h1, h2⟩ := lsOk_mem h
  have hp : 0 ≤ (most + 2) * ((41 - d : Nat) : Int) := Int.mul_nonneg (by omega) (by omega)
  have he : (most + 2) * (((41 - d : Nat) : Int) + 1) = (most + 2) * ((41 - d : Nat) : Int) + (most + 2) := by rw [Int.mul_add, Int.mul_one]
  cases e : cntC (fun of_ => cnt most f of_ ((d : Int) + 1)) (badS d) most l l.length with
  | none => simp only [Option.getD_none]; omega
  | some r =>
   simp only [Option.getD_some]
   have key := cntC_bd (B := m + (most + 2) * ((41 - d : Nat) : Int)) (M := m) l l.length r (fun c hc => by obtain ⟨l1, rfl, g, _⟩ := cxOk_inv (h2 c hc); show ((l1.length : Nat) : Int) ≤ m; omega) (fun c hc x hx s hs hb => ?_) e
   ·omega
   ·have hd : d ≤ 40 := by
     unfold badS at hb
     simp only [Bool.or_eq_false_iff, decide_eq_false_iff_not] at hb
     omega
    have h3 := lsOk_s h c hc x hx s hs
    cases f with
    | zero => simp [smOk] at h3
    | succ f =>
     obtain ⟨_, _, _, _, h4⟩ := smOk_inv h3
     have h5 := cnt_bd hm f (d + 1) (sf s).of_ h4
     have h6 : (((41 - (d + 1) : Nat) : Int) + 1) = ((41 - d : Nat) : Int) := by omega
     rw [h6] at h5
     exact h5
theorem count_L [Rk] {chk : List D → Bool} {most : Int} (hm : 0 ≤ most ∧ most ≤ 1000) : ∀ (f : Nat) (d : Nat) (l : List D), d ≤ 41 → lsOk 140737488355328 (smOk 140737488355328 f) l = true →
  callL Tryz.prog (ext11b chk) 55 [.list l, .int .i64 most, .int .i64 d] [] = some (.int .i64 (cnt most (f + 1) l d), [.no], [])
 | f, d, l, hd, h => by
  obtain ⟨h1, h2⟩ := lsOk_mem h
  refine count_step (chk := chk) (fun of_ => cnt most f of_ ((d : Int) + 1)) most d hm ⟨by omega, by omega⟩ l h1 fun c hc => ?_
  obtain ⟨l1, rfl, g1, g2⟩ := cxOk_inv (h2 c hc)
  refine ⟨rfl, g1, fun x hx => ?_⟩
  obtain ⟨cc, l2, rfl, g3, g4⟩ := cpOk_inv (g2 x hx)
  refine ⟨rfl, g3, fun s hs => ?_⟩
  have h3 := g4 s hs
  cases f with
  | zero => simp [smOk] at h3
  | succ f =>
   obtain ⟨e, _, _, _, h4⟩ := smOk_inv h3
   refine ⟨e, fun h40 => ?_, cnt_nonneg hm.1 _ _ _, ?_⟩
   ·have := count_L (chk := chk) hm f (d + 1) (sf s).of_ (by omega) h4
    exact this
   ·have := cnt_bd hm.1 f (d + 1) (sf s).of_ h4
    have h5 : (most + 2) * (((41 - (d + 1) : Nat) : Int) + 1) ≤ 1002 * 42 := Int.mul_le_mul (by omega) (by omega) (by omega) (by omega)
    have h6 : cnt most (f + 1) (sf s).of_ ((d : Int) + 1) = cnt most (f + 1) (sf s).of_ ((d + 1 : Nat) : Int) := rfl
    show cnt most (f + 1) (sf s).of_ ((d : Int) + 1) ≤ _
    rw [h6]
    omega
end Go.Av
namespace Go.Av
open Go.Proofs
variable [Rk] {chk : List D → Bool}
def numB (s : Sf) : Bool := decide ((1099511627776 : Int) < max s.a s.b) || decide (min s.a s.b < (-1099511627776 : Int))
def numX (N : List D → Bool) (s : D) : Bool := numB (sf s) || N (sf s).of_
def numP (N : List D → Bool) (x : D) : Bool := (cpL x).any (numX N)
def numC (N : List D → Bool) (c : D) : Bool := (cxL c).any (numP N)
def nums : Nat → List D → Bool
 | 0, _ => false
 | f + 1, l => l.any (numC (nums f))
set_option maxHeartbeats 16000000 in
theorem nums_step (N : List D → Bool) (l : List D) (hl : l.length ≤ 1000)
  (hL : ∀ c ∈ l, c = .agg [.list (cxL c)] ∧ (cxL c).length ≤ 1000 ∧ ∀ x ∈ cxL c, x = .agg [.int .i64 (cpC x), .list (cpL x)] ∧ (cpL x).length ≤ 1000 ∧ ∀ s ∈ cpL x,
   s = .agg [.int .i64 (sf s).kd, .int .i64 (sf s).ns, .str (sf s).pre, .str (sf s).nm, .int .i64 (sf s).op, .str (sf s).tx, .bool (sf s).fold, .int .i64 (sf s).mark, .int .i64 (sf s).a, .int .i64 (sf s).b, .list (sf s).of_] ∧ callL Tryz.prog (ext11b chk) 30 [.list (sf s).of_] [] = some (.bool (N (sf s).of_), [.no], [])) :
  callL Tryz.prog (ext11b chk) 30 [.list l] [] = some (.bool (l.any (numC N)), [.no], []) := by
 have HL := Hd.mk hL
 have HN := Hd.mk hl
 clear hL hl
 obtain ⟨R, hR⟩ : ∃ R, Hd (R = l.any (numC N)) := ⟨_, rfl⟩
 rw [← (show R = l.any (numC N) from hR)]
 refine callK (m := 55) (res := [2]) (rs := [.tmp 2]) rfl Tryz.func30 rfl rfl rfl rfl rfl ?_
 repeat' (first|simp only [*, AVB, AVY, ↓reduceIte, Nat.reduceLT, reduceCtorEq, Nat.reduceBEq]|refine drW_intro (by kernel_rfl) ?_|refine gw_intro (fun h => ?_) (fun h => ?_) <;> try simp only [AVH] at h)
 refine loopH (fun st => ∃ (i : Nat), i ≤ l.length ∧ st.slot 11 = .int .i64 i ∧ st.slot 10 = .int .i64 l.length ∧ st.slot 9 = .list l ∧ Hd (R = (l.drop i).any (numC N))) (fun st => l.length - slotI st 11) ?_ ?_
 ·refine ⟨0, Nat.zero_le _, ?_, ?_, ?_, hR⟩
  all_goals simp only [*, AVB, ↓reduceIte, Nat.reduceEqDiff]
  all_goals rfl
 ·rintro st K ⟨i, hi, g11, g10, g9, hO⟩ hn hx hr
  have hl : l.length ≤ 1000 := HN
  have hO' : R = (l.drop i).any (numC N) := hO
  by_cases h : i < l.length
  ·have k9 : (i : Int) < l.length := by omega
   have hw := wrapS i (by omega)
   obtain ⟨c, hc1⟩ := some_at h
   rw [any_drop _ hc1] at hO'
   unfold numC at hO'
   obtain ⟨e1, hx1, hX⟩ := (show ∀ c ∈ l, _ from HL) c (List.mem_of_getElem? hc1)
   have ha := (self_getD hc1).trans e1
   generalize cxL c = X at *
   have HI := Hd.mk h
   have HX := Hd.mk hX
   have HO := Hd.mk hO'
   have HX1 := Hd.mk hx1
   clear hl hO hO' hx hX hc1 e1 hx1 h hR
   repeat' (first|simp only [*, AVB, AVY, ↓reduceIte, Nat.reduceEqDiff, Nat.reduceLT, Nat.reduceLeDiff, dIntBin]|refine drW_intro (by kernel_rfl) ?_|refine gw_intro (fun h => ?_) (fun h => ?_) <;> try simp only [AVH] at h)
   refine loopH (fun st' => ∃ (k : Nat), k ≤ X.length ∧ st'.slot 18 = .int .i64 k ∧ st'.slot 17 = .int .i64 X.length ∧ st'.slot 16 = .list X ∧ st'.slot 11 = .int .i64 i ∧ st'.slot 10 = .int .i64 l.length ∧ st'.slot 9 = .list l ∧ Hd (R = ((X.drop k).any (numP N) || (l.drop (i + 1)).any (numC N)))) (fun st' => X.length - slotI st' 18) ?_ ?_
   ·refine ⟨0, Nat.zero_le _, ?_, ?_, ?_, ?_, ?_, ?_, HO⟩
    all_goals simp only [*, AVB, ↓reduceIte, Nat.reduceEqDiff]
    all_goals rfl
   ·rintro st' K' ⟨k, hk, e18, e17, e16, e11, e10, e9, hO⟩ hn2 hx2 hr2
    have G11 := Hd.mk g11
    clear g9 g10 g11 HO
    have hxl : X.length ≤ 1000 := HX1
    have hO' : R = ((X.drop k).any (numP N) || (l.drop (i + 1)).any (numC N)) := hO
    by_cases h : k < X.length
    ·have k10 : (k : Int) < X.length := by omega
     have hw3 := wrapS k (by omega)
     obtain ⟨x, hx1⟩ := some_at h
     rw [any_drop _ hx1] at hO'
     unfold numP at hO'
     obtain ⟨f1, f2, hS⟩ := (show ∀ x ∈ X, _ from HX) x (List.mem_of_getElem? hx1)
     have hb := (self_getD hx1).trans f1
     generalize cpL x = Y at *
     generalize cpC x = cc at *
     have HK := Hd.mk h
     have HS := Hd.mk hS
     have HO := Hd.mk hO'
     have HY1 := Hd.mk f2
     clear hO hO' hx2 hS hx1 f1 f2 h hxl hn
     repeat' (first|simp only [*, AVB, AVY, ↓reduceIte, Nat.reduceEqDiff, Nat.reduceLT, Nat.reduceLeDiff, Nat.reduceAdd, dIntBin]|refine drW_intro (by kernel_rfl) ?_|refine gw_intro (fun h => ?_) (fun h => ?_) <;> try simp only [AVH] at h)
     refine loopH (fun st2 => ∃ (m : Nat), m ≤ Y.length ∧ st2.slot 25 = .int .i64 m ∧ st2.slot 24 = .int .i64 Y.length ∧ st2.slot 23 = .list Y ∧ st2.slot 18 = .int .i64 k ∧ st2.slot 17 = .int .i64 X.length ∧ st2.slot 16 = .list X ∧ st2.slot 11 = .int .i64 i ∧ st2.slot 10 = .int .i64 l.length ∧ st2.slot 9 = .list l ∧ Hd (R = (((Y.drop m).any (numX N) || (X.drop (k + 1)).any (numP N)) || (l.drop (i + 1)).any (numC N)))) (fun st2 => Y.length - slotI st2 25) ?_ ?_
     ·refine ⟨0, Nat.zero_le _, ?_, ?_, ?_, ?_, ?_, ?_, ?_, ?_, ?_, HO⟩
      all_goals simp only [*, AVB, ↓reduceIte, Nat.reduceEqDiff]
      all_goals rfl
     ·rintro st2 K2 ⟨m, hmm, u25, u24, u23, u18, u17, u16, u11, u10, u9, hO⟩ hn3 hx3 hr3
      have E18 := Hd.mk e18
      clear e18 e17 e16 e11 e10 e9 HO
      have hyl : Y.length ≤ 1000 := HY1
      have hO' : R = (((Y.drop m).any (numX N) || (X.drop (k + 1)).any (numP N)) || (l.drop (i + 1)).any (numC N)) := hO
      by_cases h : m < Y.length
      ·have k11 : (m : Int) < Y.length := by omega
       have hw4 := wrapS m (by omega)
       obtain ⟨s, hs1⟩ := some_at h
       rw [any_drop _ hs1] at hO'
       unfold numX at hO'
       obtain ⟨q1, hcall⟩ := (show ∀ s ∈ Y, _ from HS) s (List.mem_of_getElem? hs1)
       have hz := (self_getD hs1).trans q1
       generalize sf s = S at *
       have HM0 := Hd.mk h
       unfold numB at hO'
       clear hO hx3 hs1 q1 h hyl
       by_cases c1 : (1099511627776 : Int) < max S.a S.b
       ·rw [decide_eq_true c1] at hO'
        simp only [Bool.true_or] at hO'
        subst hO'
        clear hn3 hn2 hcall
        repeat' (first|simp only [*, AVB, AVY, ↓reduceIte, Nat.reduceEqDiff, Nat.reduceLT, Nat.reduceLeDiff, Nat.reduceAdd, dIntBin]|refine drW_intro (by kernel_rfl) ?_|refine gw_intro (fun h => ?_) (fun h => ?_) <;> try simp only [AVH] at h)
        refine hr3 _ ?_
        refine hr2 _ ?_
        refine hr _ ?_
        repeat' (first|simp only [*, AVB, ↓reduceIte]|refine drW_intro (by kernel_rfl) ?_|refine gw_intro (fun h => ?_) (fun h => ?_) <;> try simp only [AVH] at h)
       rw [decide_eq_false c1, Bool.false_or] at hO'
       by_cases c2 : min S.a S.b < (-1099511627776 : Int)
       ·rw [decide_eq_true c2] at hO'
        simp only [Bool.true_or] at hO'
        subst hO'
        clear hn3 hn2 hcall
        repeat' (first|simp only [*, AVB, AVY, ↓reduceIte, Nat.reduceEqDiff, Nat.reduceLT, Nat.reduceLeDiff, Nat.reduceAdd, dIntBin]|refine drW_intro (by kernel_rfl) ?_|refine gw_intro (fun h => ?_) (fun h => ?_) <;> try simp only [AVH] at h)
        refine hr3 _ ?_
        refine hr2 _ ?_
        refine hr _ ?_
        repeat' (first|simp only [*, AVB, ↓reduceIte]|refine drW_intro (by kernel_rfl) ?_|refine gw_intro (fun h => ?_) (fun h => ?_) <;> try simp only [AVH] at h)
       rw [decide_eq_false c2, Bool.false_or] at hO'
       cases c3 : N S.of_ with
       | true =>
        rw [c3] at hcall hO'
        simp only [Bool.true_or] at hO'
        subst hO'
        clear hn3 hn2
        repeat' (first|simp only [*, AVB, AVY, ↓reduceIte, Nat.reduceEqDiff, Nat.reduceLT, Nat.reduceLeDiff, Nat.reduceAdd, dIntBin]|refine drW_intro (by kernel_rfl) ?_|refine gw_intro (fun h => ?_) (fun h => ?_) <;> try simp only [AVH] at h)
        refine hr3 _ ?_
        refine hr2 _ ?_
        refine hr _ ?_
        repeat' (first|simp only [*, AVB, ↓reduceIte]|refine drW_intro (by kernel_rfl) ?_|refine gw_intro (fun h => ?_) (fun h => ?_) <;> try simp only [AVH] at h)
       | false =>
        rw [c3] at hcall hO'
        simp only [Bool.false_or] at hO'
        have HO2 := Hd.mk hO'
        clear hO' hr3 hn2 hr2 hr
        repeat' (first|simp only [*, AVB, AVY, ↓reduceIte, Nat.reduceEqDiff, Nat.reduceLT, Nat.reduceLeDiff, Nat.reduceAdd, dIntBin]|refine drW_intro (by kernel_rfl) ?_|refine gw_intro (fun h => ?_) (fun h => ?_) <;> try simp only [AVH] at h)
        refine hn3 _ ⟨m + 1, HM0, ?_, ?_, ?_, ?_, ?_, ?_, ?_, ?_, ?_, HO2⟩ ?_
        ·simp only [*, AVL, ↓reduceIte]
        ·simp only [*, AVL, ↓reduceIte, Nat.reduceEqDiff]
        ·simp only [*, AVL, ↓reduceIte, Nat.reduceEqDiff]
        ·simp only [*, AVL, ↓reduceIte, Nat.reduceEqDiff]
        ·simp only [*, AVL, ↓reduceIte, Nat.reduceEqDiff]
        ·simp only [*, AVL, ↓reduceIte, Nat.reduceEqDiff]
        ·simp only [*, AVL, ↓reduceIte, Nat.reduceEqDiff]
        ·simp only [*, AVL, ↓reduceIte, Nat.reduceEqDiff]
        ·simp only [*, AVL, ↓reduceIte, Nat.reduceEqDiff]
        ·have hm2 : m < Y.length := HM0
         simp only [slotI, *, AVB, ↓reduceIte]
         omega
      ·have k11 : ¬ (m : Int) < Y.length := by omega
       rw [any_end _ (by omega), Bool.false_or] at hO'
       have HO2 := Hd.mk hO'
       clear hO hO' hr3 hn3 hr2 hr hyl h
       repeat' (first|simp only [*, AVB, ↓reduceIte, Nat.reduceLT, dIntBin]|refine drW_intro (by kernel_rfl) ?_|refine gw_intro (fun h => ?_) (fun h => ?_) <;> try simp only [AVH] at h)
       refine hx3 _ _ ?_
       repeat' (first|simp only [*, AVB, ↓reduceIte, Nat.reduceEqDiff, Nat.reduceLT, dIntBin]|refine drW_intro (by kernel_rfl) ?_|refine gw_intro (fun h => ?_) (fun h => ?_) <;> try simp only [AVH] at h)
       have hk2 : k < X.length := HK
       refine hn2 _ ⟨k + 1, hk2, ?_, ?_, ?_, ?_, ?_, ?_, HO2⟩ ?_
       ·simp only [*, AVL, ↓reduceIte]
       ·simp only [*, AVL, ↓reduceIte, Nat.reduceEqDiff]
       ·simp only [*, AVL, ↓reduceIte, Nat.reduceEqDiff]
       ·simp only [*, AVL, ↓reduceIte, Nat.reduceEqDiff]
       ·simp only [*, AVL, ↓reduceIte, Nat.reduceEqDiff]
       ·simp only [*, AVL, ↓reduceIte, Nat.reduceEqDiff]
       ·have e18 : st'.slot 18 = .int .i64 k := E18
        simp only [slotI, *, AVB, ↓reduceIte]
        omega
    ·have k10 : ¬ (k : Int) < X.length := by omega
     rw [any_end _ (by omega), Bool.false_or] at hO'
     have HO2 := Hd.mk hO'
     clear hO hO' hr2 hn2 hxl h hr
     repeat' (first|simp only [*, AVB, ↓reduceIte, Nat.reduceLT, dIntBin]|refine drW_intro (by kernel_rfl) ?_|refine gw_intro (fun h => ?_) (fun h => ?_) <;> try simp only [AVH] at h)
     refine hx2 _ _ ?_
     repeat' (first|simp only [*, AVB, ↓reduceIte, Nat.reduceEqDiff, Nat.reduceLT, dIntBin]|refine drW_intro (by kernel_rfl) ?_|refine gw_intro (fun h => ?_) (fun h => ?_) <;> try simp only [AVH] at h)
     have hi2 : i < l.length := HI
     refine hn _ ⟨i + 1, hi2, ?_, ?_, ?_, HO2⟩ ?_
     ·simp only [*, AVL, ↓reduceIte]
     ·simp only [*, AVL, ↓reduceIte, Nat.reduceEqDiff]
     ·simp only [*, AVL, ↓reduceIte, Nat.reduceEqDiff]
     ·have g11 : st.slot 11 = .int .i64 i := G11
      simp only [slotI, *, AVB, ↓reduceIte]
      omega
  ·have k9 : ¬ (i : Int) < l.length := by omega
   rw [any_end _ (by omega)] at hO'
   subst hO'
   clear hO hn hr hl hR h
   repeat' (first|simp only [*, AVB, ↓reduceIte, Nat.reduceLT, dIntBin]|refine drW_intro (by kernel_rfl) ?_|refine gw_intro (fun h => ?_) (fun h => ?_) <;> try simp only [AVH] at h)
   refine hx _ _ ?_
   repeat' (first|simp only [*, AVB, ↓reduceIte, Nat.reduceLT]|refine drW_intro (by kernel_rfl) ?_|refine gw_intro (fun h => ?_) (fun h => ?_) <;> try simp only [AVH] at h)
theorem nums_L : ∀ (f : Nat) (l : List D), lsOk 100 (smOk 100 f) l = true → callL Tryz.prog (ext11b chk) 30 [.list l] [] = some (.bool (nums (f + 1) l), [.no], [])
 | f, l, h => by
  obtain ⟨h1, h2⟩ := lsOk_mem h
  refine nums_step (chk := chk) (nums f) l (by omega) fun c hc => ?_
  obtain ⟨l1, rfl, g1, g2⟩ := cxOk_inv (h2 c hc)
  refine ⟨rfl, (show l1.length ≤ 1000 by omega), fun x hx => ?_⟩
  obtain ⟨cc, l2, rfl, g3, g4⟩ := cpOk_inv (g2 x hx)
  refine ⟨rfl, (show l2.length ≤ 1000 by omega), fun s hs => ?_⟩
  have h3 := g4 s hs
  cases f with
  | zero => simp [smOk] at h3
  | succ f =>
   obtain ⟨e, _, _, _, h4⟩ := smOk_inv h3
   exact ⟨e, nums_L f (sf s).of_ h4⟩
end Go.Av
namespace Go.Av
open Go.Proofs
variable [Rk] {chk : List D → Bool}
def longS (s : List UInt8) : Bool := decide ((100 : Int) < s.length)
def gnF (nm : Nam) : Bool := decide ((30 : Int) < nm.pre.length) || (decide ((30 : Int) < nm.sps.length) || (decide ((100 : Int) < nm.dft.length) || (nm.pre ++ nm.sps).any longS))
set_option maxHeartbeats 4000000 in
theorem gnames_L (nm : Nam) (h1 : nm.pre.length ≤ 140737488355328) (h2 : nm.sps.length ≤ 140737488355328) : callL Tryz.prog (ext11b chk) 29 [.agg nm.cs] [] = some (.bool (gnF nm), [.no], []) := by
 unfold gnF Nam.cs
 have lP := lenM nm.pre D.str
 have lS := lenM nm.sps D.str
 have lQ := lenM (nm.pre ++ nm.sps) D.str
 have hap : nm.pre.map D.str ++ nm.sps.map D.str = (nm.pre ++ nm.sps).map D.str := by simp
 have l0P := lenM0 nm.pre D.str
 have l0S := lenM0 nm.sps D.str
 by_cases c1 : (30 : Int) < nm.pre.length
 ·rw [decide_eq_true c1, Bool.true_or]
  clear hap lQ
  refine callK (m := 37) (res := [2]) (rs := [.tmp 2]) rfl Tryz.func29 rfl rfl rfl rfl rfl ?_
  repeat' (first|simp only [*, AVB, AVY, ↓reduceIte, Nat.reduceEqDiff, Nat.reduceLT, Nat.reduceAdd, dIntBin]|refine drW_intro (by kernel_rfl) ?_|refine gw_intro (fun h => ?_) (fun h => ?_) <;> try simp only [AVH] at h)
 rw [decide_eq_false c1, Bool.false_or]
 by_cases c2 : (30 : Int) < nm.sps.length
 ·rw [decide_eq_true c2, Bool.true_or]
  clear hap lQ
  refine callK (m := 37) (res := [2]) (rs := [.tmp 2]) rfl Tryz.func29 rfl rfl rfl rfl rfl ?_
  repeat' (first|simp only [*, AVB, AVY, ↓reduceIte, Nat.reduceEqDiff, Nat.reduceLT, Nat.reduceAdd, dIntBin]|refine drW_intro (by kernel_rfl) ?_|refine gw_intro (fun h => ?_) (fun h => ?_) <;> try simp only [AVH] at h)
 rw [decide_eq_false c2, Bool.false_or]
 by_cases c3 : (100 : Int) < nm.dft.length
 ·rw [decide_eq_true c3, Bool.true_or]
  clear hap lQ
  refine callK (m := 37) (res := [2]) (rs := [.tmp 2]) rfl Tryz.func29 rfl rfl rfl rfl rfl ?_
  repeat' (first|simp only [*, AVB, AVY, ↓reduceIte, Nat.reduceEqDiff, Nat.reduceLT, Nat.reduceAdd, dIntBin]|refine drW_intro (by kernel_rfl) ?_|refine gw_intro (fun h => ?_) (fun h => ?_) <;> try simp only [AVH] at h)
 rw [decide_eq_false c3, Bool.false_or]
 have hz1 : szOk 1 (nm.pre.map D.str) = true := by cases nm.pre <;> rfl
 have hz2 : szOk 1 (nm.sps.map D.str) = true := by cases nm.sps <;> rfl
 have hz0 : lenOk (0 + nm.pre.length) 16 = true := lenOk_small (by omega)
 have hz3 : lenOk (nm.pre.length + nm.sps.length) 16 = true := lenOk_small (by omega)
 have hz4 : lenOk nm.pre.length 16 = true := lenOk_small (by omega)
 have hlen : (nm.pre ++ nm.sps).length ≤ 60 := by rw [List.length_append]; omega
 have HL := Hd.mk hlen
 clear h1 h2 hlen
 obtain ⟨Q, hQ⟩ : ∃ Q, nm.pre ++ nm.sps = Q := ⟨_, rfl⟩
 rw [hQ] at lQ hap HL ⊢
 clear hQ
 obtain ⟨R, hR⟩ : ∃ R, Hd (R = Q.any longS) := ⟨_, rfl⟩
 rw [← (show R = Q.any longS from hR)]
 refine callK (m := 37) (res := [2]) (rs := [.tmp 2]) rfl Tryz.func29 rfl rfl rfl rfl rfl ?_
 repeat' (first|simp only [*, AVB, AVY, ↓reduceIte, Nat.reduceEqDiff, Nat.reduceLT, reduceCtorEq, Nat.reduceBEq, Nat.reduceAdd, dIntBin]|refine drW_intro (by kernel_rfl) ?_|refine gw_intro (fun h => ?_) (fun h => ?_) <;> try simp only [AVH] at h)
 refine loopH (fun st => ∃ i : Nat, i ≤ Q.length ∧ st.slot 29 = .int .i64 i ∧ st.slot 28 = .int .i64 Q.length ∧ st.slot 27 = .list (Q.map D.str) ∧ Hd (R = (Q.drop i).any longS)) (fun st => Q.length - slotI st 29) ?_ ?_
 ·refine ⟨0, Nat.zero_le _, ?_, ?_, ?_, hR⟩
  all_goals simp only [*, AVB, ↓reduceIte, Nat.reduceEqDiff]
  all_goals rfl
 ·rintro st K ⟨i, hi, g29, g28, g27, hO⟩ hn hx hr
  have hl : Q.length ≤ 60 := HL
  have hO' : R = (Q.drop i).any longS := hO
  by_cases h : i < Q.length
  ·have k9 : (i : Int) < Q.length := by omega
   have hw := wrapS i (by omega)
   obtain ⟨x, hx1⟩ := some_at h
   rw [any_drop _ hx1] at hO'
   have ha : (Q.map D.str).getD i .bad = .str x := getD_map (f := D.str) hx1
   unfold longS at hO'
   clear hO hx hx1 hR hap hz1 hz2 hz0 hz3 hz4 c1 c2 c3
   by_cases c4 : (100 : Int) < x.length
   ·rw [decide_eq_true c4, Bool.true_or] at hO'
    subst hO'
    clear hn
    repeat' (first|simp only [*, AVB, AVY, ↓reduceIte, Nat.reduceEqDiff, Nat.reduceLT, Nat.reduceBEq, dIntBin]|refine drW_intro (by kernel_rfl) ?_|refine gw_intro (fun h => ?_) (fun h => ?_) <;> try simp only [AVH] at h)
    refine hr _ ?_
    repeat' (first|simp only [*, AVB, ↓reduceIte]|refine drW_intro (by kernel_rfl) ?_|refine gw_intro (fun h => ?_) (fun h => ?_) <;> try simp only [AVH] at h)
   ·rw [decide_eq_false c4, Bool.false_or] at hO'
    have HO := Hd.mk hO'
    clear hO' hr
    repeat' (first|simp only [*, AVB, AVY, ↓reduceIte, Nat.reduceEqDiff, Nat.reduceLT, Nat.reduceBEq, dIntBin]|refine drW_intro (by kernel_rfl) ?_|refine gw_intro (fun h => ?_) (fun h => ?_) <;> try simp only [AVH] at h)
    refine hn _ ⟨i + 1, h, ?_, ?_, ?_, HO⟩ ?_
    ·simp only [*, AVL, ↓reduceIte]
    ·simp only [*, AVL, ↓reduceIte, Nat.reduceEqDiff]
    ·simp only [*, AVL, ↓reduceIte, Nat.reduceEqDiff]
    ·simp only [slotI, *, AVB, ↓reduceIte]
     omega
  ·have k9 : ¬ (i : Int) < Q.length := by omega
   rw [any_end _ (by omega)] at hO'
   subst hO'
   clear hO hn hr hl hR hap hz1 hz2 hz0 hz3 hz4 c1 c2 c3
   repeat' (first|simp only [*, AVB, ↓reduceIte, Nat.reduceLT, dIntBin]|refine drW_intro (by kernel_rfl) ?_|refine gw_intro (fun h => ?_) (fun h => ?_) <;> try simp only [AVH] at h)
   refine hx _ _ ?_
   repeat' (first|simp only [*, AVB, ↓reduceIte, Nat.reduceLT]|refine drW_intro (by kernel_rfl) ?_|refine gw_intro (fun h => ?_) (fun h => ?_) <;> try simp only [AVH] at h)
set_option maxHeartbeats 1000000 in
theorem great28_L {M f : Nat} (l : List D) (most : Int) (hm : 0 ≤ most ∧ most ≤ 1000) (h : lsOk 140737488355328 (smOk 140737488355328 f) l = true) :
  callL Tryz.prog (ext11b chk) 28 [.list l, .int .i64 most] [] = some (.bool (decide (most < cnt most (f + 1) l 0)), [.no], []) := by
 have hc : callL Tryz.prog (ext11b chk) 55 [.list l, .int .i64 most, .int .i64 0] [] = some (.int .i64 (cnt most (f + 1) l 0), [.no], []) := count_L (chk := chk) hm f 0 l (by decide) h
 generalize cnt most (f + 1) l 0 = z at *
 clear h
 refine callK (m := 10) (res := [4]) (rs := [.tmp 4]) rfl Tryz.func28 rfl rfl rfl rfl rfl ?_
 repeat' (first|simp only [*, AVB, ↓reduceIte, Nat.reduceEqDiff, Nat.reduceLT, reduceCtorEq, Nat.reduceBEq, dIntBin]|refine drW_intro (by kernel_rfl) ?_|refine gw_intro (fun h => ?_) (fun h => ?_) <;> try simp only [AVH] at h)
def greatZ (ns : List Nd) (f : Nat) (l : List D) (nm : Nam) : Bool := greatF ns 12 || (decide (24 < cnt 24 (f + 1) l 0) || (gnF nm || nums 42 l))
set_option maxHeartbeats 2000000 in
theorem greatZ_L {f : Nat} (ns : List Nd) (l : List D) (nm : Nam) (h : lsOk 140737488355328 (smOk 140737488355328 f) l = true) (h1 : nm.pre.length ≤ 140737488355328) (h2 : nm.sps.length ≤ 140737488355328) :
  callL Tryz.prog (ext11b chk) 10 [.list (ns.map Nd.d), .list l, .agg nm.cs] [] = some (.bool (greatZ ns f l nm), [.no], []) := by
 have g1 : callL Tryz.prog (ext11b chk) 27 [.list (ns.map Nd.d), .int .i64 12] [] = some (.bool (greatF ns 12), [.no], []) := great_L (chk := chk) ns 12 (by decide)
 have g2 := great28_L (chk := chk) (M := 0) l 24 (by decide) h
 have g3 := gnames_L (chk := chk) nm h1 h2
 have g4 : ¬ (24 : Int) < cnt 24 (f + 1) l 0 → callL Tryz.prog (ext11b chk) 30 [.list l] [] = some (.bool (nums 42 l), [.no], []) := fun hc =>
  nums_L (chk := chk) 41 l (cnt_small (most := 24) (by decide) (by decide) f l 0 41 rfl h (by have : cnt 24 (f + 1) l ((0 : Nat) : Int) = cnt 24 (f + 1) l 0 := rfl; omega))
 unfold greatZ Nam.cs at *
 generalize greatF ns 12 = b1 at *
 generalize gnF nm = b3 at *
 generalize cnt 24 (f + 1) l 0 = z at *
 generalize ns.map Nd.d = L at *
 clear h h1 h2
 cases b1 with
 | true =>
  clear g2 g3 g4
  refine callK (m := 21) (res := [6]) (rs := [.tmp 6]) rfl Tryz.func10 rfl rfl rfl rfl rfl ?_
  repeat' (first|simp only [*, AVB, AVY, ↓reduceIte, Nat.reduceEqDiff, Nat.reduceLT, reduceCtorEq, Nat.reduceBEq, Nat.reduceAdd]|refine drW_intro (by kernel_rfl) ?_|refine gw_intro (fun h => ?_) (fun h => ?_) <;> try simp only [AVH] at h)
 | false =>
  by_cases hz : (24 : Int) < z
  ·rw [decide_eq_true hz] at g2 ⊢
   clear g3 g4 hz
   refine callK (m := 21) (res := [6]) (rs := [.tmp 6]) rfl Tryz.func10 rfl rfl rfl rfl rfl ?_
   repeat' (first|simp only [*, AVB, AVY, ↓reduceIte, Nat.reduceEqDiff, Nat.reduceLT, reduceCtorEq, Nat.reduceBEq, Nat.reduceAdd]|refine drW_intro (by kernel_rfl) ?_|refine gw_intro (fun h => ?_) (fun h => ?_) <;> try simp only [AVH] at h)
  ·have g4' := g4 hz
   rw [decide_eq_false hz] at g2 ⊢
   clear g4 hz
   cases b3 with
   | true =>
    clear g4'
    refine callK (m := 21) (res := [6]) (rs := [.tmp 6]) rfl Tryz.func10 rfl rfl rfl rfl rfl ?_
    repeat' (first|simp only [*, AVB, AVY, ↓reduceIte, Nat.reduceEqDiff, Nat.reduceLT, reduceCtorEq, Nat.reduceBEq, Nat.reduceAdd]|refine drW_intro (by kernel_rfl) ?_|refine gw_intro (fun h => ?_) (fun h => ?_) <;> try simp only [AVH] at h)
   | false =>
    refine callK (m := 21) (res := [6]) (rs := [.tmp 6]) rfl Tryz.func10 rfl rfl rfl rfl rfl ?_
    repeat' (first|simp only [*, AVB, AVY, ↓reduceIte, Nat.reduceEqDiff, Nat.reduceLT, reduceCtorEq, Nat.reduceBEq, Nat.reduceAdd]|refine drW_intro (by kernel_rfl) ?_|refine gw_intro (fun h => ?_) (fun h => ?_) <;> try simp only [AVH] at h)
end Go.Av
namespace Go.Av
open Go.Proofs Go.RowKit Go.Proofs.YtcogfddcdpgpkaaGreatDoor
noncomputable def chkB (es : List D) : Bool := @decide (∃ ns, SmallD ns ∧ es = ns.map Nd.d ∧ chkF ns = (0, 0)) (Classical.propDecidable _)
theorem chkB_ok [Rk] : ChkOK (ext11b fun _ => false) chkB := by
 intro es hn h
 unfold chkB at h
 obtain ⟨ns, hs, rfl, hc⟩ := @of_decide_eq_true _ (Classical.propDecidable _) h
 have h1 := check_L (chk := fun _ => false) ns hs
 rw [hc] at h1
 obtain ⟨N, hN⟩ := callL_aev h1
 exact ⟨N, _, hN⟩
theorem chkG_all : ∀ {r a : List Nd} {roots : Int}, chkG a r roots = (0, 0) → ∀ (i : Nat) (n : Nd), r[i]? = some n → nodeF (a ++ r.take i) n = true
 | [], _, _, _, i, n, hi => by simp at hi
 | x :: r, a, roots, h, i, n, hi => by
  rw [chkG] at h
  split at h
  ·rename_i hx
   cases i with
   | zero => simp at hi; subst hi; simpa using hx
   | succ i =>
    have := chkG_all h i n (by simpa using hi)
    simpa using this
  ·simp at h
theorem par_of {a : List Nd} {n : Nd} (h : nodeF a n = true) : -1 ≤ n.p ∧ n.p < a.length ∧ (0 ≤ n.p → kindAt a n.p = 1) := by
 unfold nodeF parOk at h
 simp only [Bool.and_eq_true, Bool.not_eq_eq_eq_not, Bool.not_true, decide_eq_false_iff_not, Bool.and_eq_false_iff] at h
 obtain ⟨⟨h1, h2, h3⟩, _⟩ := h
 refine ⟨by omega, by omega, fun h0 => ?_⟩
 rcases h3 with h3 | h3
 ·exact absurd h0 h3
 ·simpa using h3
theorem range_ok {ns : List Nd} (hS : SmallD ns) (h : chkF ns = (0, 0)) : rangeOk (ns.map Nd.d) = true := by
 unfold rangeOk
 rw [List.all_eq_true]
 intro e he
 obtain ⟨n, hn, rfl⟩ := List.mem_map.1 he
 obtain ⟨i, hi⟩ := List.mem_iff_getElem?.1 hn
 obtain ⟨h1, h2, _⟩ := par_of (chkG_all h i n hi)
 have hi' := (List.getElem?_eq_some_iff.1 hi).1
 have := hS.1
 simp only [List.nil_append, List.length_take] at h2
 show (decide (-1 ≤ n.p) && decide (n.p < 10000)) = true
 simp only [Bool.and_eq_true, decide_eq_true_eq]
 omega
theorem right_chk {ns : List Nd} (h : chkF ns = (0, 0)) : RightT ns := right_of fun j n hj => par_of (by have := chkG_all h j n hj; simpa using this)
theorem new_L [Rk] {ns : List Nd} (hS : SmallD ns) (h : chkF ns = (0, 0)) : callL Tryz.prog (ext11b chkB) 12 [.list (ns.map Nd.d)] [] = some (.tuple [treeN ns, .con .nilIface], [], []) := by
 refine callL_ext (ext_new1 rfl rfl ?_)
 have hb : chkB (ns.map Nd.d) = true := by
  unfold chkB
  exact @decide_eq_true _ (Classical.propDecidable _) ⟨ns, hS, rfl, h⟩
 show (if nodesOk (ns.map Nd.d) = true ∧ rangeOk (ns.map Nd.d) = true ∧ chkB (ns.map Nd.d) = true then some (D.tuple [treeD (ns.map Nd.d), .con .nilIface], ([] : List Room), ([] : List Bx)) else none) = _
 rw [if_pos ⟨nodes_ok hS.small, range_ok hS h, hb⟩]
 rfl
theorem ls_num : ∀ (k : Nat) (l : List D), lsOk 100 (smOk 100 k) l = true → nums (k + 1) l = false → lsOk 100 (smN k) l = true
 | k, l, h, hn => by
  obtain ⟨h1, h2⟩ := lsOk_mem h
  simp only [nums, List.any_eq_false] at hn
  simp only [lsOk, lenB, Bool.and_eq_true, decide_eq_true_eq, List.all_eq_true]
  refine ⟨h1, fun c hc => ?_⟩
  obtain ⟨l1, rfl, f1, f2⟩ := cxOk_inv (h2 c hc)
  have n1 := hn _ hc
  unfold numC at n1
  rw [show cxL (cxD l1) = l1 from rfl] at n1
  simp only [List.any_eq_true, not_exists, not_and] at n1
  simp only [cxD, cxOk, lenB, Bool.and_eq_true, decide_eq_true_eq, List.all_eq_true]
  refine ⟨f1, fun x hx => ?_⟩
  obtain ⟨y, l2, rfl, f3, f4⟩ := cpOk_inv (f2 x hx)
  have n2 := n1 _ hx
  unfold numP at n2
  rw [show cpL (cpD y l2) = l2 from rfl] at n2
  simp only [List.any_eq_true, not_exists, not_and] at n2
  simp only [cpD, cpOk, lenB, Bool.and_eq_true, decide_eq_true_eq, List.all_eq_true]
  refine ⟨f3, fun s hs => ?_⟩
  have n3 := n2 s hs
  have h3 := f4 s hs
  cases k with
  | zero => simp [smOk] at h3
  | succ k =>
   obtain ⟨_, _, _, _, h4⟩ := smOk_inv h3
   unfold numX numB at n3
   simp only [Bool.or_eq_true, decide_eq_true_eq, not_or] at n3
   have h5 := ls_num k (sf s).of_ h4 (by simpa using n3.2)
   simp only [smN, Bool.and_eq_true, decide_eq_true_eq]
   exact ⟨h3, by omega, by omega, by omega, by omega, h5⟩
def okA (l : List D) : Prop := (∀ x ∈ l, cpOk 100 (smN 45) x = true) ∧ l.length ≤ 100
theorem extA_ok {sp : Call} (hsp : CallOK Tryz.prog sp) : CallOK Tryz.prog (@extR (rkE sp okA)) :=
 extR_ok (fun ns nm l n h => rows 45 (Nat.le_refl _) l.length h.2.2.2.2.2.2 ns nm l n h.2.1 h.2.2.1 h.2.2.2.1 h.2.2.2.2.1 h.2.2.2.2.2.1 rfl) hsp
theorem ext12_ok {sp : Call} (hsp : CallOK Tryz.prog sp) : CallOK Tryz.prog (@ext11b (rkE sp okA) chkB) := by
 letI : Rk := rkE sp okA
 exact orExt_ok extF_ok (orExt_ok extCl_ok (orExt_ok (extNew_ok (ext11b_ok0 (extA_ok hsp)) chkB_ok) (extA_ok hsp)))
structure RowA (R : Rk) : Prop where
 s8 : R.r 8 [] [] = some (.bool true, [.no], [])
 row : ∀ (ns : List Nd) (nm : Nam) (l : List D) (n : Int), SmallD ns → RightT ns → nm.ok → elB ns n = true → okA l → R.r 45 [eyeD ns nm, .list l, .int .i64 n] [] = some (.bool (rowV (sV ns nm) ns l.reverse n), [], [])
theorem rowA {sp : Call} (h8 : sp 8 [] [] = some (.bool true, [.no], [])) : RowA (rkE sp okA) :=
 ⟨h8, fun ns nm l n h1 h2 h3 h4 h5 => by
  show (if (45 : Nat) = 45 then rowE okA [eyeD ns nm, .list l, .int .i64 n] [] else _) = _
  rw [if_pos rfl]
  exact rowE_some ⟨rfl, h1, h2, h3, h4, h5⟩⟩
theorem rowA_L [R : Rk] (hA : RowA R) {chk : List D → Bool} {ns : List Nd} {nm : Nam} {l : List D} {n : Int} (h1 : SmallD ns) (h2 : RightT ns) (h3 : nm.ok) (h4 : elB ns n = true) (h5 : okA l) :
  callL Tryz.prog (ext11b chk) 45 [eyeD ns nm, .list l, .int .i64 n] [] = some (.bool (rowV (sV ns nm) ns l.reverse n), [], []) := callL_ext (ext_row (hA.row ns nm l n h1 h2 h3 h4 h5))
theorem sp8_L [R : Rk] (hA : RowA R) {chk : List D → Bool} : callL Tryz.prog (ext11b chk) 8 [] [] = some (.bool true, [.no], []) := callL_ext (ext_sp8 hA.s8)
def selV (ns : List Nd) (nm : Nam) (l : List D) (n : Int) (ps : List UInt8) : Bool := l.any fun c => complexP ns nm c n ps
theorem okA_of {k : Nat} (hk : k ≤ 45) {c : D} (h : cxOk 100 (smN k) c = true) : okA (cxL c) := by
 obtain ⟨l, rfl, h1, h2⟩ := cxOk_inv h
 exact ⟨fun x hx => cp_mono (fun d hd => smN_up k d hd 45 hk) (h2 x hx), h1⟩
theorem selA_L [R : Rk] (hA : RowA R) {chk : List D → Bool} {ns : List Nd} {nm : Nam} {l : List D} {k : Nat} (hk : k ≤ 45) (h1 : SmallD ns) (h2 : RightT ns) (h3 : nm.ok) (hl : lsOk 100 (smN k) l = true) (n : Int) (ps : List UInt8) :
  callL Tryz.prog (ext11b chk) 14 [treeN ns, .list l, .agg nm.cs, subD n ps] [] = some (.bool (selV ns nm l n ps), [.no], []) :=
 selects_L (k := 44) ns nm l n ps h1 (ls_mono (fun d hd => smOk_up _ _ (smN_ok hd) 45 hk) hl) fun he c hc => rowA_L hA h1 h2 h3 he (okA_of hk ((lsOk_mem hl).2 c hc))
end Go.Av
namespace Go.Av
open Go.Proofs
theorem chkG_z : ∀ {r a : List Nd} {roots : Int}, (chkG a r roots).1 = 0 → chkG a r roots = (0, 0)
 | [], a, roots, h => by
  rw [chkG] at h ⊢
  split at h
  ·rename_i h1; rw [if_pos h1]
  ·simp at h
 | x :: r, a, roots, h => by
  rw [chkG] at h ⊢
  split at h
  ·rename_i h1; rw [if_pos h1]; exact chkG_z h
  ·simp at h
theorem chkF_z {ns : List Nd} (h : (chkF ns).1 = 0) : chkF ns = (0, 0) := chkG_z h
variable [R : Rk]
end Go.Av
namespace Go.Proofs.YtcogfddcdpgpkaaGreatDoor
open Go.RowKit Go.Av Go.ChangeShapes Go.WideShapes
theorem own : ownKnob Tryz.prog.godebug = none := by kernel_rfl
theorem laidOut : laidOutB Tryz.prog = true := by kernel_rfl
def laid11 : List (String × DataW Unit) := Rows.matchNotsRow.laid
def nm (i : Nat) : String := (laid11.map (·.1)).getD i default
def accP : List (Int × Int) := [(128, 191), (160, 191), (128, 159), (144, 191), (128, 143), (0, 0), (0, 0), (0, 0), (0, 0), (0, 0), (0, 0), (0, 0), (0, 0), (0, 0), (0, 0), (0, 0)]
theorem acc_data : (Rows.laid_unicode_utf8_acceptRanges : DataW Unit) = .agg (accP.map fun z => .agg [.lit (.int .u8 z.1), .lit (.int .u8 z.2)]) := rfl
theorem first_data : Rows.laid_unicode_utf8_first = .agg ((Go.Pinned.utf8FirstZ.map fun n => ((n : Nat) : Int)).map fun z => .lit (.int .u8 z)) := by kernel_rfl
theorem accP_at (i : Nat) (h : i < 16) : (accP.getD i (0, 0)).1 = (accN.getD (i * 2) 0 : Nat) ∧ (accP.getD i (0, 0)).2 = (accN.getD (i * 2 + 1) 0 : Nat) := by
 rcases (by omega : i = 0 ∨ i = 1 ∨ i = 2 ∨ i = 3 ∨ i = 4 ∨ i = 5 ∨ i = 6 ∨ i = 7 ∨ i = 8 ∨ i = 9 ∨ i = 10 ∨ i = 11 ∨ i = 12 ∨ i = 13 ∨ i = 14 ∨ i = 15) with rfl | rfl | rfl | rfl | rfl | rfl | rfl | rfl | rfl | rfl | rfl | rfl | rfl | rfl | rfl | rfl <;> exact ⟨rfl, rfl⟩
theorem fs126 : ∃ fs, Tryz.prog.underlying 208 = some (.struct fs) ∧ fs.size = 2 ∧ Go.Deep.oneCellFields Tryz.prog fs = true ∧ ∀ (i : Nat) (f : Field), fs[i]? = some f → Tryz.prog.underlying f.type = some (.int .u8) := by
 have h : (match Tryz.prog.underlying 208 with | some (.struct fs) => fs.size == 2 && Go.Deep.oneCellFields Tryz.prog fs && fs.toList.all (fun f => f.type == 5) | _ => false) = true := by kernel_rfl
 split at h
 ·rename_i fs hu
  simp only [Bool.and_eq_true, beq_iff_eq, List.all_eq_true] at h
  refine ⟨fs, hu, h.1.1, h.1.2, fun i f hf => ?_⟩
  rw [h.2 f (by rw [Array.mem_toList_iff]; exact Array.mem_of_getElem? hf)]
  exact Tryz.underlying5
 ·cases h
theorem st_data : (Rows.laid_wattle_sel_states : DataW Unit) = .agg (stS.map fun z => .lit (.string z)) := rfl
section
variable {H : Type} {enc : TypeId × Value → H} {P : Program} {w : World} {base : Nat} {spare : Nat → Bool} {held : Bool}
theorem cells_strs {t e : TypeId} {n fuel : Nat} {cs : List Value} {p : List MemPlace} {zs : List (List UInt8)} (ht : P.underlying t = some (.array n e)) (he : P.underlying e = some .string) (hc : P.cellsOf e = 1)
  (h : DataW.trod enc P w base spare held fuel t cs = some (.agg (zs.map fun z => .lit (.string z)), p)) : ∀ i, i < n → cs[i]? = some (.string ⟨(zs.getD i []).toArray⟩) := by
 obtain ⟨xs, m, _, ex, _, hl, hel⟩ := DataW.trod_array ht h
 intro i hi
 have hE := hel i hi
 rw [hc, Nat.mul_one, List.getElem?_eq_getElem (by omega)] at hE
 obtain ⟨z, e1, e2, _⟩ := DataW.trod_string he hE
 have e3 : xs.map (·.1) = zs.map fun z => .lit (.string z) := (DataW.agg.inj (Prod.mk.inj ex).1).symm
 have hlen : zs.length = xs.length := by have := congrArg List.length e3; simpa using this.symm
 have e4 : (xs.map (·.1))[i]? = (zs.map fun z => (DataW.lit (.string z) : DataW H))[i]? := by rw [e3]
 rw [List.getElem?_map, List.getElem?_map, List.getElem?_eq_getElem (by omega : i < xs.length), List.getElem?_eq_getElem (by omega : i < zs.length), e2] at e4
 have hz : z.data.toList = zs.getD i [] := by
  simp only [Option.map_some, Option.some.injEq, DataW.lit.injEq, Lit.string.injEq] at e4
  rw [e4, List.getD, List.getElem?_eq_getElem (by omega : i < zs.length)]; rfl
 rw [← hz]
 have h0 : ((cs.drop i).take 1)[0]? = some (.string z) := by rw [e1]; rfl
 simpa using h0
end
theorem pw_strs {F : Nat → Nat → Prop} {w : World} (ss : List (List UInt8)) : ∀ (i : Nat) (v : Value) (x : D), (ss.map fun s => Value.string ⟨s.toArray⟩)[i]? = some v → (ss.map D.str)[i]? = some x → Den0 F w v x := by
 intro i v x hv hx
 simp only [List.getElem?_map, Option.map_eq_some_iff] at hv hx
 obtain ⟨z, hz, rfl⟩ := hv
 obtain ⟨z', hz', rfl⟩ := hx
 rw [hz] at hz'
 obtain rfl := Option.some.inj hz'
 exact .str z
theorem fix_of {W : World} {g : Nat} {ss : List (List UInt8)} (h : ∀ c, c < ss.length → W.cell? ⟨g, c, none⟩ = some (.string ⟨(ss.getD c []).toArray⟩)) : Den0 (old W) W (.pointer (some ⟨g, 0, none⟩)) (.fix (.agg (ss.map .str)) 0) := by
 refine Den0.fix (.agg (ss.map D.str)) g 0 0 (ss.map fun s => Value.string ⟨s.toArray⟩) (by simp [dcells]) (fun i v hv => ?_) (pw_strs _)
 simp only [List.getElem?_map, Option.map_eq_some_iff] at hv
 obtain ⟨z, hz, rfl⟩ := hv
 have hlt : i < ss.length := (List.getElem?_eq_some_iff.1 hz).1
 have hcell := h i hlt
 rw [List.getD, hz] at hcell
 rw [Nat.zero_add]
 exact ⟨cell_old hcell, hcell, rfl⟩
theorem pw_ints {F : Nat → Nat → Prop} {w : World} (ns : List Nat) : ∀ (i : Nat) (v : Value) (x : D), (ns.map fun n => Value.int .u8 (n : Nat))[i]? = some v → (ns.map fun n => D.int .u8 (n : Nat))[i]? = some x → Den0 F w v x := by
 intro i v x hv hx
 simp only [List.getElem?_map, Option.map_eq_some_iff] at hv hx
 obtain ⟨z, hz, rfl⟩ := hv
 obtain ⟨z', hz', rfl⟩ := hx
 rw [hz] at hz'
 obtain rfl := Option.some.inj hz'
 exact .int _ _
theorem fix_ints {W : World} {g : Nat} {ns : List Nat} (h : ∀ c, c < ns.length → W.cell? ⟨g, c, none⟩ = some (.int .u8 (ns.getD c 0 : Nat))) : Den0 (old W) W (.pointer (some ⟨g, 0, none⟩)) (.fix (.agg (ns.map fun n => .int .u8 (n : Nat))) 0) := by
 refine Den0.fix (.agg (ns.map fun n => D.int .u8 (n : Nat))) g 0 0 (ns.map fun n => Value.int .u8 (n : Nat)) (by simp [dcells]) (fun i v hv => ?_) (pw_ints _)
 simp only [List.getElem?_map, Option.map_eq_some_iff] at hv
 obtain ⟨z, hz, rfl⟩ := hv
 have hlt : i < ns.length := (List.getElem?_eq_some_iff.1 hz).1
 have hcell := h i hlt
 rw [List.getD, hz] at hcell
 rw [Nat.zero_add]
 exact ⟨cell_old hcell, hcell, rfl⟩
theorem row0 : ((begin Tryz.prog (fun _ _ => 0) default).world.heap[4]?).bind Obj.row? = some (#[.int .i64 0], 3) := by kernel_rfl
theorem maxLen_some (W : World) (h : W.ShapedOpen Tryz.prog) : ∃ m, W.cell? ⟨4, 0, none⟩ = some (.int .i64 m) :=
 cell_of_shapedOpen_int h (of_decide_eq_true (by kernel_rfl)) row0 rfl (by kernel_rfl) (by kernel_rfl) Tryz.underlying3
theorem max_den {W : World} (h : W.ShapedOpen Tryz.prog) : ∃ d, (∃ m : Int, d = D.fix (.int .i64 m) 0) ∧ Den0 (old W) W (.pointer (some ⟨4, 0, none⟩)) d := by
 obtain ⟨m, hm⟩ := maxLen_some W h
 refine ⟨_, ⟨m, rfl⟩, ?_⟩
 refine Den0.fix (.int .i64 m) 4 0 0 [.int .i64 m] rfl (fun i v hv => ?_) (fun i v x hv hx => ?_)
 ·cases i with
  | zero => simp at hv; subst hv; exact ⟨cell_old hm, hm, rfl⟩
  | succ i => simp at hv
 ·cases i with
  | zero => simp [dcells] at hv hx; subst hv; subst hx; exact .int _ _
  | succ i => simp at hv
theorem gok11 {W : World} (h : laidMetH Tryz.prog laid11 W) (hsh : W.ShapedOpen Tryz.prog) : GOK (old W) W := by
 rw [MakeChecks.laidMetH_plain _ _ _ (by kernel_rfl)] at h
 obtain ⟨ps, ⟨g0, t0, cs0, f0, p0, q0, hg0, ht0, hv0, hd0, ⟨g1, t1, cs1, f1, p1, q1, hg1, ht1, hv1, hd1, ⟨g2, t2, cs2, f2, p2, q2, hg2, ht2, hv2, hd2, _⟩, _⟩, _⟩, _, _⟩ := h
 obtain rfl := Option.some.inj ((show Tryz.prog.globalNamed (nm 0) = some 3 by kernel_rfl).symm.trans hg0)
 obtain rfl := Option.some.inj ((show (Tryz.prog.globals[3]?).map (·.type) = some 209 by kernel_rfl).symm.trans ht0)
 obtain rfl := Option.some.inj ((show Tryz.prog.globalNamed (nm 1) = some 1 by kernel_rfl).symm.trans hg1)
 obtain rfl := Option.some.inj ((show (Tryz.prog.globals[1]?).map (·.type) = some 192 by kernel_rfl).symm.trans ht1)
 obtain rfl := Option.some.inj ((show Tryz.prog.globalNamed (nm 2) = some 2 by kernel_rfl).symm.trans hg2)
 obtain rfl := Option.some.inj ((show (Tryz.prog.globals[2]?).map (·.type) = some 206 by kernel_rfl).symm.trans ht2)
 have h1 : ∀ c, c < stS.length → W.cell? ⟨1, c, none⟩ = some (.string ⟨(stS.getD c []).toArray⟩) := by
  intro c hc
  rw [st_data] at hd1
  have := cells_strs Tryz.underlying192 Tryz.underlying9 (by kernel_rfl) hd1 c hc
  rw [World.var?_cell (show Tryz.prog.globalNamed (nm 1) = some 1 by kernel_rfl) hv1 c]
  simpa using this
 have h2 : ∀ c, c < ((List.range 256).map firstN).length → W.cell? ⟨2, c, none⟩ = some (.int .u8 (((List.range 256).map firstN).getD c 0 : Nat)) := by
  intro c hc
  have hc : c < 256 := by simpa using hc
  rw [first_data] at hd2
  have := cells_ints (k := .u8) Tryz.underlying206 Tryz.underlying5 (by kernel_rfl) hd2 c hc
  rw [World.var?_cell (show Tryz.prog.globalNamed (nm 2) = some 2 by kernel_rfl) hv2 c]
  have hz : (Go.Pinned.utf8FirstZ.map fun n => ((n : Nat) : Int)).getD c 0 = (firstN c : Nat) := by
   unfold firstN
   have hlen : Go.Pinned.utf8FirstZ.length = 256 := by kernel_rfl
   rw [List.getD, List.getD, List.getElem?_map, List.getElem?_eq_getElem (by omega : c < Go.Pinned.utf8FirstZ.length)]
   rfl
  rw [hz] at this
  have e : ((List.range 256).map firstN).getD c 0 = firstN c := by
   rw [List.getD, List.getElem?_map, List.getElem?_range hc]
   rfl
  rw [e]
  simpa using this
 have h3 : ∀ c, c < accN.length → W.cell? ⟨3, c, none⟩ = some (.int .u8 (accN.getD c 0 : Nat)) := by
  intro i hi
  have hi : i < 32 := hi
  rw [acc_data] at hd0
  obtain ⟨fs, h1, h2, h3, h4⟩ := fs126
  have := cells_pairs (u := 5) (k := .u8) Tryz.underlying209 h1 h2 h3 h4 (by kernel_rfl) hd0 (i / 2) (by omega)
  obtain ⟨e1, e2⟩ := accP_at (i / 2) (by omega)
  rw [e1, e2] at this
  rw [World.var?_cell (show Tryz.prog.globalNamed (nm 0) = some 3 by kernel_rfl) hv0 i]
  rcases (by omega : i = i / 2 * 2 ∨ i = i / 2 * 2 + 1) with e | e
  ·rw [← e] at this; simpa using this.1
  ·rw [← e] at this; simpa using this.2
 refine ⟨fun g => ?_, fun x hx => ?_, fun x hx => by cases hx⟩
 case refine_2 =>
  obtain rfl := List.mem_singleton.1 (show x ∈ [((4 : Nat), fun d => ∃ m : Int, d = D.fix (.int .i64 m) 0)] from hx)
  exact max_den hsh
 show (if g = 1 then D.fix (.agg stD) 0 else if g = 2 then .fix (.agg firstD) 0 else if g = 3 then .fix (.agg accD) 0 else .bad) = .bad ∨ Den0 (old W) W (.pointer (some ⟨g, 0, none⟩)) (if g = 1 then D.fix (.agg stD) 0 else if g = 2 then .fix (.agg firstD) 0 else if g = 3 then .fix (.agg accD) 0 else .bad)
 by_cases c1 : g = 1
 ·subst c1; exact .inr (fix_of h1)
 ·by_cases c2 : g = 2
  ·subst c2
   right
   have := fix_ints h2
   rw [List.map_map] at this
   exact this
  ·by_cases c3 : g = 3
   ·subst c3; exact .inr (fix_ints h3)
   ·left; rw [if_neg c1, if_neg c2, if_neg c3]
theorem reach_le : reachBytes ≤ 140737488355328 := by decide
section
variable {P : Program}
theorem str_ok {t : TypeId} (hu : P.underlying t = some .string) {d : D} (h : TyD P t d) : ∃ s, d = .str s ∧ s.length ≤ 140737488355328 := by
 cases h with
 | str _ l _ hl => exact ⟨_, rfl, Nat.le_trans hl reach_le⟩
 | bool _ b h => rw [hu] at h; cases h
 | int _ k n h _ => rw [hu] at h; cases h
 | list _ e es h _ _ => rw [hu] at h; cases h
 | agg _ fs ds h _ _ => rw [hu] at h; cases h
theorem int_ok {t : TypeId} (hu : P.underlying t = some (.int .i64)) {d : D} (h : TyD P t d) : ∃ z : Int, d = .int .i64 z ∧ -9223372036854775808 ≤ z ∧ z < 9223372036854775808 := by
 cases h with
 | int _ k n h hw =>
  rw [hu] at h
  cases h
  have : (Lit.int .i64 n).wf = true := hw
  simp [Lit.wf, IntKind.min, IntKind.max, IntKind.signed, IntKind.bits] at this
  exact ⟨n, rfl, by omega, by omega⟩
 | bool _ b h => rw [hu] at h; cases h
 | str _ l h hl => rw [hu] at h; cases h
 | list _ e es h _ _ => rw [hu] at h; cases h
 | agg _ fs ds h _ _ => rw [hu] at h; cases h
theorem bool_ok {t : TypeId} (hu : P.underlying t = some .bool) {d : D} (h : TyD P t d) : ∃ b, d = .bool b := by
 cases h with
 | bool _ b h => exact ⟨b, rfl⟩
 | int _ k n h _ => rw [hu] at h; cases h
 | str _ l h hl => rw [hu] at h; cases h
 | list _ e es h _ _ => rw [hu] at h; cases h
 | agg _ fs ds h _ _ => rw [hu] at h; cases h
theorem list_ok {α : Type} {f : α → D} {t e : TypeId} {Q : α → Prop} (hu : P.underlying t = some (.slice e)) (hf : ∀ d, TyD P e d → ∃ a, d = f a ∧ Q a) {d : D} (h : TyD P t d) : ∃ l : List α, d = .list (l.map f) ∧ l.length * P.bytesOf e ≤ 140737488355328 ∧ ∀ a ∈ l, Q a := by
 cases h with
 | list _ e' es h hl hes =>
  rw [hu] at h
  cases h
  have key : ∀ es : List D, (∀ d ∈ es, TyD P e d) → ∃ l : List α, es = l.map f ∧ ∀ a ∈ l, Q a := by
   intro es
   induction es with
   | nil => exact fun _ => ⟨[], rfl, fun a h => by cases h⟩
   | cons x r ih =>
    intro h
    obtain ⟨l, rfl, hq⟩ := ih fun d hd => h d (by simp [hd])
    obtain ⟨a, rfl, ha⟩ := hf x (h x (by simp))
    refine ⟨a :: l, rfl, fun b hb => ?_⟩
    rcases List.mem_cons.1 hb with rfl | hb
    ·exact ha
    ·exact hq b hb
  obtain ⟨l, rfl, hq⟩ := key es hes
  exact ⟨l, rfl, by rw [List.length_map] at hl; exact Nat.le_trans hl reach_le, hq⟩
 | bool _ b h => rw [hu] at h; cases h
 | int _ k n h _ => rw [hu] at h; cases h
 | str _ l h hl => rw [hu] at h; cases h
 | agg _ fs ds h _ _ => rw [hu] at h; cases h
theorem agg_ok {t : TypeId} {fs : Array Field} (hu : P.underlying t = some (.struct fs)) {d : D} (h : TyD P t d) : ∃ ds : List D, d = .agg (ds.flatMap dcells) ∧ ds.length = fs.size ∧ ∀ (i : Nat) (f : Field) (d : D), fs[i]? = some f → ds[i]? = some d → TyD P f.type d := by
 cases h with
 | agg _ fs' ds h hl hds =>
  rw [hu] at h
  cases h
  exact ⟨ds, rfl, hl, hds⟩
 | bool _ b h => rw [hu] at h; cases h
 | int _ k n h _ => rw [hu] at h; cases h
 | str _ l h hl => rw [hu] at h; cases h
 | list _ e es h _ _ => rw [hu] at h; cases h
def fieldTs (P : Program) (t : TypeId) : Option (List TypeId) := match P.underlying t with | some (.struct fs) => some (fs.toList.map (·.type)) | _ => none
theorem agg_ok' {t : TypeId} {ts : List TypeId} (hu : fieldTs P t = some ts) {d : D} (h : TyD P t d) : ∃ ds : List D, d = .agg (ds.flatMap dcells) ∧ ds.length = ts.length ∧ ∀ (i : Nat) (u : TypeId) (d : D), ts[i]? = some u → ds[i]? = some d → TyD P u d := by
 unfold fieldTs at hu
 split at hu
 ·rename_i fs hf
  injection hu with hu
  subst hu
  obtain ⟨ds, h1, h2, h3⟩ := agg_ok hf h
  refine ⟨ds, h1, by simpa using h2, fun i u d hi hd => ?_⟩
  rw [List.getElem?_map] at hi
  obtain ⟨f, hf1, rfl⟩ := Option.map_eq_some_iff.1 hi
  exact h3 i f d (by simpa using hf1) hd
 ·cases hu
end
theorem at_ok {d : D} (h : TyD Tryz.prog 97 d) : ∃ a : At, d = a.d ∧ BigA a := by
 obtain ⟨ds, rfl, hl, h⟩ := agg_ok' (ts := [9, 9, 9]) (by kernel_rfl) h
 match ds, hl with
 | [x, y, z], _ =>
  obtain ⟨a, rfl, ha⟩ := str_ok Tryz.underlying9 (h 0 _ _ rfl rfl)
  obtain ⟨b, rfl, hb⟩ := str_ok Tryz.underlying9 (h 1 _ _ rfl rfl)
  obtain ⟨c, rfl, hc⟩ := str_ok Tryz.underlying9 (h 2 _ _ rfl rfl)
  exact ⟨⟨a, b, c⟩, rfl, ha, hb, hc⟩
theorem le_of_mul {n b m : Nat} (h : n * b ≤ m) (hb : 0 < b) : n ≤ m := Nat.le_trans (Nat.le_mul_of_pos_right n hb) h
theorem nd_ok {d : D} (h : TyD Tryz.prog 71 d) : ∃ n : Nd, d = n.d ∧ BigN n := by
 obtain ⟨ds, rfl, hl, h⟩ := agg_ok' (ts := [3, 3, 9, 9, 69, 24, 9]) (by kernel_rfl) h
 match ds, hl with
 | [x0, x1, x2, x3, x4, x5, x6], _ =>
  obtain ⟨p, rfl, _⟩ := int_ok Tryz.underlying3 (h 0 _ _ rfl rfl)
  obtain ⟨k, rfl, _⟩ := int_ok Tryz.underlying3 (h 1 _ _ rfl rfl)
  obtain ⟨sp, rfl, h2⟩ := str_ok Tryz.underlying9 (h 2 _ _ rfl rfl)
  obtain ⟨nm, rfl, h3⟩ := str_ok Tryz.underlying9 (h 3 _ _ rfl rfl)
  obtain ⟨la, rfl, h4, h4'⟩ := list_ok (f := At.d) (Q := BigA) Tryz.underlying69 (fun d h => at_ok h) (h 4 _ _ rfl rfl)
  obtain ⟨ls, rfl, h5, _⟩ := list_ok (f := D.str) (Q := fun _ => True) Tryz.underlying24 (fun d h => (str_ok Tryz.underlying9 h).imp fun _ h => ⟨h.1, trivial⟩) (h 5 _ _ rfl rfl)
  obtain ⟨tx, rfl, h6⟩ := str_ok Tryz.underlying9 (h 6 _ _ rfl rfl)
  exact ⟨⟨p, k, sp, nm, la, ls, tx⟩, rfl, le_of_mul h4 (by decide +kernel), le_of_mul h5 (by decide +kernel), h3, h2, h6, h4'⟩
theorem doc_ok {d : D} (h : TyD Tryz.prog 22 d) : ∃ ns : List Nd, d = .list (ns.map Nd.d) ∧ BigD ns := by
 obtain ⟨l, h1, h2, h3⟩ := list_ok (f := Nd.d) (Q := BigN) Tryz.underlying22 (fun d h => nd_ok h) h
 exact ⟨l, h1, le_of_mul h2 (by decide +kernel), h3⟩
theorem law_c1 {f : FuncId} {xs : List D} {r : List Room} {vals : List Value} {W : World} (hg : GOK (old W) W) (h : Go.Av.C1 f xs (.bool true) r) (hl : vals.length = xs.length)
  (hd : ∀ (i : Nat) (v : Value) (x : D), vals[i]? = some v → xs[i]? = some x → Den0 (old W) W v x) : Calls Tryz.prog f vals.toArray W fun e W' => e = .returned (.bool true) ∧ Below W.heap.size W W' := by
 refine (callC h hg hl hd).mono ?_
 rintro e W' ⟨⟨v, rfl, hv⟩, hb⟩
 exact ⟨by rw [den_bool hv], hb⟩
theorem names_ok {d : D} (h : TyD Tryz.prog 26 d) : ∃ nm : Nam, d = .agg nm.cs ∧ nm.pre.length ≤ 140737488355328 ∧ nm.sps.length ≤ 140737488355328 := by
 obtain ⟨ds, rfl, hl, h⟩ := agg_ok' (ts := [4, 9, 24, 24]) (by kernel_rfl) h
 match ds, hl with
 | [x0, x1, x2, x3], _ =>
  obtain ⟨b, rfl⟩ := bool_ok Tryz.underlying4 (h 0 _ _ rfl rfl)
  obtain ⟨s, rfl, _⟩ := str_ok Tryz.underlying9 (h 1 _ _ rfl rfl)
  obtain ⟨l1, rfl, h2, _⟩ := list_ok (f := D.str) (Q := fun _ => True) Tryz.underlying24 (fun d h => (str_ok Tryz.underlying9 h).imp fun _ h => ⟨h.1, trivial⟩) (h 2 _ _ rfl rfl)
  obtain ⟨l2, rfl, h3, _⟩ := list_ok (f := D.str) (Q := fun _ => True) Tryz.underlying24 (fun d h => (str_ok Tryz.underlying9 h).imp fun _ h => ⟨h.1, trivial⟩) (h 3 _ _ rfl rfl)
  exact ⟨⟨b, s, l1, l2⟩, rfl, le_of_mul h2 (by decide +kernel), le_of_mul h3 (by decide +kernel)⟩
theorem sub_ok {d : D} (h : TyD Tryz.prog 51 d) : ∃ n ps, d = subD n ps := by
 obtain ⟨ds, rfl, hl, h⟩ := agg_ok' (ts := [3, 9]) (by kernel_rfl) h
 match ds, hl with
 | [x0, x1], _ =>
  obtain ⟨n, rfl, _⟩ := int_ok Tryz.underlying3 (h 0 _ _ rfl rfl)
  obtain ⟨s, rfl, _⟩ := str_ok Tryz.underlying9 (h 1 _ _ rfl rfl)
  exact ⟨n, s, rfl⟩
theorem max_of {α : Type} {R : α → Nat → Prop} (hup : ∀ a i j, R a i → i ≤ j → R a j) : ∀ (l : List α), (∀ a ∈ l, ∃ f, R a f) → ∃ f, ∀ a ∈ l, R a f
 | [], _ => ⟨0, fun a h => by cases h⟩
 | x :: r, h => by
  obtain ⟨f1, h1⟩ := h x (List.mem_cons_self ..)
  obtain ⟨f2, h2⟩ := max_of hup r fun a ha => h a (List.mem_cons_of_mem _ ha)
  refine ⟨max f1 f2, fun a ha => ?_⟩
  rcases List.mem_cons.1 ha with rfl | ha
  ·exact hup _ _ _ h1 (Nat.le_max_left ..)
  ·exact hup _ _ _ (h2 a ha) (Nat.le_max_right ..)
abbrev MB : Nat := 140737488355328
abbrev Sel (t : TypeId) (d : D) (f : Nat) : Prop :=
 (t = 42 → smOk MB f d = true) ∧ (t = 45 → cpOk MB (smOk MB f) d = true) ∧ (t = 48 → cxOk MB (smOk MB f) d = true) ∧
 (t = 43 → ∃ l, d = .list l ∧ l.length ≤ MB ∧ ∀ s ∈ l, smOk MB f s = true) ∧ (t = 46 → ∃ l, d = .list l ∧ l.length ≤ MB ∧ ∀ s ∈ l, cpOk MB (smOk MB f) s = true) ∧ (t = 23 → ∃ l, d = .list l ∧ lsOk MB (smOk MB f) l = true)
theorem Sel.up {t : TypeId} {d : D} {i j : Nat} (h : Sel t d i) (hij : i ≤ j) : Sel t d j := by
 obtain ⟨h1, h2, h3, h4, h5, h6⟩ := h
 have hm : ∀ d, smOk MB i d = true → smOk MB j d = true := fun d hd => smOk_up i d hd j hij
 refine ⟨fun e => hm _ (h1 e), fun e => cp_mono hm (h2 e), fun e => cx_mono hm (h3 e), fun e => ?_, fun e => ?_, fun e => ?_⟩
 ·obtain ⟨l, a, b, c⟩ := h4 e
  exact ⟨l, a, b, fun s hs => hm _ (c s hs)⟩
 ·obtain ⟨l, a, b, c⟩ := h5 e
  exact ⟨l, a, b, fun s hs => cp_mono hm (c s hs)⟩
 ·obtain ⟨l, a, b⟩ := h6 e
  exact ⟨l, a, ls_mono hm b⟩
theorem fts (t : TypeId) (ts : List TypeId) {fs : Array Field} (hu : Tryz.prog.underlying t = some (.struct fs)) (h : fieldTs Tryz.prog t = some ts) : fs.toList.map (·.type) = ts := by
 unfold fieldTs at h
 rw [hu] at h
 exact Option.some.inj h
theorem sel_ok {t : TypeId} {d : D} (h : TyD Tryz.prog t d) : ∃ f, Sel t d f := by
 induction h with
 | bool t b hu => exact ⟨0, fun e => (by subst e; rw [show Tryz.prog.underlying 42 = _ from Tryz.underlying42] at hu; cases hu), fun e => (by subst e; rw [show Tryz.prog.underlying 45 = _ from Tryz.underlying45] at hu; cases hu), fun e => (by subst e; rw [show Tryz.prog.underlying 48 = _ from Tryz.underlying48] at hu; cases hu), fun e => (by subst e; rw [Tryz.underlying43] at hu; cases hu), fun e => (by subst e; rw [Tryz.underlying46] at hu; cases hu), fun e => (by subst e; rw [Tryz.underlying23] at hu; cases hu)⟩
 | int t k n hu _ => exact ⟨0, fun e => (by subst e; rw [Tryz.underlying42] at hu; cases hu), fun e => (by subst e; rw [Tryz.underlying45] at hu; cases hu), fun e => (by subst e; rw [Tryz.underlying48] at hu; cases hu), fun e => (by subst e; rw [Tryz.underlying43] at hu; cases hu), fun e => (by subst e; rw [Tryz.underlying46] at hu; cases hu), fun e => (by subst e; rw [Tryz.underlying23] at hu; cases hu)⟩
 | str t l hu _ => exact ⟨0, fun e => (by subst e; rw [Tryz.underlying42] at hu; cases hu), fun e => (by subst e; rw [Tryz.underlying45] at hu; cases hu), fun e => (by subst e; rw [Tryz.underlying48] at hu; cases hu), fun e => (by subst e; rw [Tryz.underlying43] at hu; cases hu), fun e => (by subst e; rw [Tryz.underlying46] at hu; cases hu), fun e => (by subst e; rw [Tryz.underlying23] at hu; cases hu)⟩
 | list t e es hu hl _ ih =>
  obtain ⟨f, hf⟩ := max_of (R := fun d f => Sel e d f) (fun a i j h hij => h.up hij) es ih
  have hl' : es.length * Tryz.prog.bytesOf e ≤ 140737488355328 := Nat.le_trans hl reach_le
  refine ⟨f, fun e => (by subst e; rw [Tryz.underlying42] at hu; cases hu), fun e => (by subst e; rw [Tryz.underlying45] at hu; cases hu), fun e => (by subst e; rw [Tryz.underlying48] at hu; cases hu), fun e0 => ?_, fun e0 => ?_, fun e0 => ?_⟩
  ·subst e0
   rw [Tryz.underlying43] at hu
   cases hu
   exact ⟨es, rfl, le_of_mul hl' (by decide +kernel), fun s hs => (hf s hs).1 rfl⟩
  ·subst e0
   rw [Tryz.underlying46] at hu
   cases hu
   exact ⟨es, rfl, le_of_mul hl' (by decide +kernel), fun s hs => (hf s hs).2.1 rfl⟩
  ·subst e0
   rw [Tryz.underlying23] at hu
   cases hu
   refine ⟨es, rfl, ?_⟩
   simp only [lsOk, lenB, Bool.and_eq_true, decide_eq_true_eq, List.all_eq_true]
   exact ⟨le_of_mul hl' (by decide +kernel), fun s hs => (hf s hs).2.2.1 rfl⟩
 | agg t fs ds hu hl hds ih =>
  have hty : TyD Tryz.prog t (.agg (ds.flatMap dcells)) := .agg t fs ds hu hl hds
  have at_ : ∀ (ts : List TypeId), fieldTs Tryz.prog t = some ts → ds.length = ts.length ∧ ∀ (i : Nat) (u : TypeId) (d : D), ts[i]? = some u → ds[i]? = some d → TyD Tryz.prog u d ∧ ∃ f, Sel u d f := by
   intro ts hts
   have e := fts t ts hu hts
   refine ⟨by rw [hl, ← e]; simp, fun i u d hi hd => ?_⟩
   rw [← e, List.getElem?_map] at hi
   obtain ⟨f, hf1, rfl⟩ := Option.map_eq_some_iff.1 hi
   exact ⟨hds i f d (by simpa using hf1) hd, ih i f d (by simpa using hf1) hd⟩
  by_cases t42 : t = 42
  ·subst t42
   obtain ⟨hlen, hh⟩ := at_ [3, 3, 9, 9, 38, 3, 40, 23] (by kernel_rfl)
   match ds, hlen with
   | [x0, x1, x2, x3, x4, x5, x6, x7], _ =>
    obtain ⟨kd, rfl, _⟩ := int_ok Tryz.underlying3 (hh 0 _ _ rfl rfl).1
    obtain ⟨ns, rfl, _⟩ := int_ok Tryz.underlying3 (hh 1 _ _ rfl rfl).1
    obtain ⟨pre, rfl, h2⟩ := str_ok Tryz.underlying9 (hh 2 _ _ rfl rfl).1
    obtain ⟨nm, rfl, h3⟩ := str_ok Tryz.underlying9 (hh 3 _ _ rfl rfl).1
    obtain ⟨cd, rfl, c1, c2⟩ := agg_ok' (ts := [3, 9, 4]) (by kernel_rfl) (hh 4 _ _ rfl rfl).1
    obtain ⟨mk, rfl, _⟩ := int_ok Tryz.underlying3 (hh 5 _ _ rfl rfl).1
    obtain ⟨ad, rfl, a1, a2⟩ := agg_ok' (ts := [3, 3]) (by kernel_rfl) (hh 6 _ _ rfl rfl).1
    obtain ⟨f, hf⟩ := (hh 7 _ _ rfl rfl).2
    obtain ⟨l, rfl, hls⟩ := hf.2.2.2.2.2 rfl
    match cd, c1, ad, a1 with
    | [y0, y1, y2], _, [z0, z1], _ =>
     obtain ⟨op, rfl, _⟩ := int_ok Tryz.underlying3 (c2 0 _ _ rfl rfl)
     obtain ⟨tx, rfl, h5⟩ := str_ok Tryz.underlying9 (c2 1 _ _ rfl rfl)
     obtain ⟨fold, rfl⟩ := bool_ok Tryz.underlying4 (c2 2 _ _ rfl rfl)
     obtain ⟨a, rfl, _⟩ := int_ok Tryz.underlying3 (a2 0 _ _ rfl rfl)
     obtain ⟨b, rfl, _⟩ := int_ok Tryz.underlying3 (a2 1 _ _ rfl rfl)
     refine ⟨f + 1, fun _ => ?_, fun e => (by cases e), fun e => (by cases e), fun e => (by cases e), fun e => (by cases e), fun e => (by cases e)⟩
     show (decide (pre.length ≤ MB) && decide (nm.length ≤ MB) && decide (tx.length ≤ MB) && lsOk MB (smOk MB f) l) = true
     simp only [Bool.and_eq_true, decide_eq_true_eq]
     exact ⟨⟨⟨h2, h3⟩, h5⟩, hls⟩
  ·by_cases t45 : t = 45
   ·subst t45
    obtain ⟨hlen, hh⟩ := at_ [3, 43] (by kernel_rfl)
    match ds, hlen with
    | [x0, x1], _ =>
     obtain ⟨cc, rfl, _⟩ := int_ok Tryz.underlying3 (hh 0 _ _ rfl rfl).1
     obtain ⟨f, hf⟩ := (hh 1 _ _ rfl rfl).2
     obtain ⟨l, rfl, h1, h2⟩ := hf.2.2.2.1 rfl
     refine ⟨f, fun e => (by cases e), fun _ => ?_, fun e => (by cases e), fun e => (by cases e), fun e => (by cases e), fun e => (by cases e)⟩
     show (decide (l.length ≤ MB) && l.all (smOk MB f)) = true
     simp only [Bool.and_eq_true, decide_eq_true_eq, List.all_eq_true]
     exact ⟨h1, h2⟩
   ·by_cases t48 : t = 48
    ·subst t48
     obtain ⟨hlen, hh⟩ := at_ [46] (by kernel_rfl)
     match ds, hlen with
     | [x0], _ =>
      obtain ⟨f, hf⟩ := (hh 0 _ _ rfl rfl).2
      obtain ⟨l, rfl, h1, h2⟩ := hf.2.2.2.2.1 rfl
      refine ⟨f, fun e => (by cases e), fun e => (by cases e), fun _ => ?_, fun e => (by cases e), fun e => (by cases e), fun e => (by cases e)⟩
      show (decide (l.length ≤ MB) && l.all (cpOk MB (smOk MB f))) = true
      simp only [Bool.and_eq_true, decide_eq_true_eq, List.all_eq_true]
      exact ⟨h1, h2⟩
    ·refine ⟨0, fun e => absurd e t42, fun e => absurd e t45, fun e => absurd e t48, fun e => ?_, fun e => ?_, fun e => ?_⟩
     ·subst e; rw [Tryz.underlying43] at hu; cases hu
     ·subst e; rw [Tryz.underlying46] at hu; cases hu
     ·subst e; rw [Tryz.underlying23] at hu; cases hu
theorem sels_ok {d : D} (h : TyD Tryz.prog 23 d) : ∃ f l, d = .list l ∧ lsOk MB (smOk MB f) l = true := by
 obtain ⟨f, hf⟩ := sel_ok h
 obtain ⟨l, h1, h2⟩ := hf.2.2.2.2.2 rfl
 exact ⟨f, l, h1, h2⟩
def us12 : List TypeId := [3, 4, 9, 24, 97, 69, 71, 22, 38, 40, 42, 43, 45, 46, 48, 23, 26, 51]
theorem us12_ok : okTs Tryz.prog us12 = true := by kernel_rfl
theorem witness11 {H : Type} (enc : TypeId × Value → H) (os : Os) (args : Array Value) : laidMetH Tryz.prog laid11 ((World.laidAll Tryz.prog os laid11).forCall (fun _ _ => 0) ⟨#[], args, []⟩).memory := by
 rw [MakeChecks.laidMetH_plain _ _ _ (by kernel_rfl)]
 exact laidMet_laidAll _ (by kernel_rfl) (by kernel_rfl)
end Go.Proofs.YtcogfddcdpgpkaaGreatDoor
namespace Go.Proofs.YtcogfddcdpgpkaaGreatDoor
open Go.Proofs Go.RowKit Go.Shelf
attribute [local go_sem] Oper.semAt_some
def offS (LL : List (List Sm)) (i : Nat) : Nat := (LL.take i).flatten.length
theorem offS_succ {LL : List (List Sm)} {i : Nat} {row : List Sm} (h : LL[i]? = some row) : offS LL (i + 1) = offS LL i + row.length := by
 unfold offS
 rw [List.take_add_one, h]
 simp
theorem offS_all (LL : List (List Sm)) : offS LL LL.length = LL.flatten.length := by
 unfold offS
 rw [List.take_length]
theorem flat_idx {LL : List (List Sm)} {i j : Nat} {row : List Sm} {s : Sm} (h : LL[i]? = some row) (h2 : row[j]? = some s) : LL.flatten[offS LL i + j]? = some s := by
 have hi := (List.getElem?_eq_some_iff.1 h).1
 have hj := (List.getElem?_eq_some_iff.1 h2).1
 have e : LL = LL.take i ++ (row :: LL.drop (i + 1)) := by
  have h3 := List.getElem?_eq_some_iff.1 h
  obtain ⟨_, h4⟩ := h3
  rw [← h4, ← List.drop_eq_getElem_cons hi, List.take_append_drop]
 have e2 : LL.flatten = (LL.take i).flatten ++ (row ++ (LL.drop (i + 1)).flatten) := by
  conv => lhs; rw [e]
  rw [List.flatten_append, List.flatten_cons]
 rw [e2]
 unfold offS
 rw [List.getElem?_append_right (by omega), Nat.add_sub_cancel_left, List.getElem?_append_left hj, h2]
def smAt (LL : List (List Sm)) (x : Fin LL.flatten.length) : Sm := LL.flatten[x]
structure Cpx (LL : List (List Sm)) (n₀ : Nat) (W : World) (a2 : Option Addr) (c2 : Nat) (b2 o2 : Nat) : Prop where
 cap : LL.length ≤ c2
 len : LL.length ≤ 1000000
 adr : LL ≠ [] → a2 = some ⟨b2, o2, none⟩ ∧ b2 < n₀
 row : ∀ (i : Nat) (row : List Sm), LL[i]? = some row → ∃ comb a3 c3 b3 o3, W.cell? ⟨b2, o2 + i * 2, none⟩ = some (.int .i64 comb) ∧ W.cell? ⟨b2, o2 + i * 2 + 1, none⟩ = some (.slice a3 row.length c3) ∧ row.length ≤ c3 ∧ row.length ≤ 1000000 ∧
  (row ≠ [] → a3 = some ⟨b3, o3, none⟩ ∧ b3 < n₀) ∧ ∀ (j : Nat) (s : Sm), row[j]? = some s → ∀ t, t < 11 → W.cell? ⟨b3, o3 + j * 11 + t, none⟩ = s.cells[t]?
theorem ne_of_at {α : Type} {l : List α} {i : Nat} {x : α} (h : l[i]? = some x) : l ≠ [] := by
 rintro rfl
 simp at h
theorem Cpx.below {LL : List (List Sm)} {n₀ : Nat} {W W' : World} {a2 : Option Addr} {c2 b2 o2 : Nat} (h : Cpx LL n₀ W a2 c2 b2 o2) (hb : Below n₀ W W') : Cpx LL n₀ W' a2 c2 b2 o2 :=
 ⟨h.cap, h.len, h.adr, fun i row hr => by
  obtain ⟨comb, a3, c3, b3, o3, h3, h4, h5, h6, h7, h8⟩ := h.row i row hr
  have h2 := (h.adr (ne_of_at hr)).2
  exact ⟨comb, a3, c3, b3, o3, (hb.cell (p := ⟨b2, o2 + i * 2, none⟩) h2).trans h3, (hb.cell (p := ⟨b2, o2 + i * 2 + 1, none⟩) h2).trans h4, h5, h6, h7, fun j s hj t ht =>
   (hb.cell (p := ⟨b3, o3 + j * 11 + t, none⟩) (h7 (ne_of_at hj)).2).trans (h8 j s hj t ht)⟩⟩
set_option maxRecDepth 100000 in
set_option maxHeartbeats 4000000 in
theorem simplesM_in (F : Fence) (n : Nat) (h21 : F.fn 114) (hro : F.round = none) (hn : 1 ≤ n) (l Bs n₀ : Nat) (LL : List (List Sm)) (J Jx : List (Fin LL.flatten.length) → World → Prop)
  (b1 o1 c1 : Nat) (a2 : Option Addr) (c2 b2 o2 : Nat) (W : World) (hJ : AbidesFrom W.heap.size J)
  (hY : ∀ pre x W, J pre W → pre.length < LL.flatten.length → YieldAt F (n - 1) Tryz.prog l #[(smAt LL x).val] W fun e W' =>
   (e = .returned (.bool true) ∧ J (pre ++ [x]) W' ∧ Below n₀ W W') ∨ (e = .returned (.bool false) ∧ Jx (pre ++ [x]) W'))
  (hn₀ : n₀ ≤ W.heap.size) (hC : Cpx LL n₀ W a2 c2 b2 o2)
  (hBs : W.cell? ⟨Bs, 0, none⟩ = some (.slice (some ⟨b1, o1, none⟩) 1 c1)) (hc1 : W.cell? ⟨b1, o1, none⟩ = some (.slice a2 LL.length c2)) (h0 : J [] W) :
  CallsIn F n Tryz.prog 114 #[.func (.yield l) #[] #[], .pointer (some ⟨Bs, 0, none⟩)] W fun e W' => (∃ v, e = .returned v) ∧
   ((∃ ys, ys = List.finRange LL.flatten.length ∧ J ys W') ∨ (∃ pre, (∃ k, k ≤ LL.flatten.length ∧ pre = upto LL.flatten.length k) ∧ Jx pre W')) := by
 refine callsIn_of_wp Tryz.func114 rfl h21 ?_ hro
 simp only [Tryz.ntmps114, List.size_toArray, List.length_cons, List.length_nil, Nat.reduceAdd, Nat.reduceSub, Array.replicate_succ, Array.replicate_zero, List.push_toArray, List.append_toArray, List.nil_append, List.cons_append]
 have hcap := hC.cap
 have hlen := hC.len
 have hoff := offS_all LL
 obtain ⟨M, hM⟩ : ∃ M, M = LL.length := ⟨_, rfl⟩
 rw [← hM] at hcap hlen hc1 hoff
 by_cases hLe : LL = []
 ·have hM0 : M = 0 := by rw [hM, hLe]; rfl
  subst hM0
  clear hM
  gi_wp2
  gi_loopw [11] (fun i wr => (i = .int .i64 0 ∧ wr = W) ∨ (i = .int .i64 1 ∧ J (List.finRange LL.flatten.length) wr))
   (fun i _ => 1 - (intOf i).toNat)
  case atStart => exact .inl ⟨rfl, rfl⟩
  case round =>
   rcases hrel with ⟨rfl, hwr⟩ | ⟨rfl, hJs⟩
   ·have hJs : J [] wr := by rw [hwr]; exact h0
    have hx1 : wr.cell? ⟨b1, o1, none⟩ = some (.slice a2 0 c2) := by rw [hwr]; exact hc1
    clear hwr
    gi_wp2
    gi_loopw [18] (fun i wm => i = .int .i64 0 ∧ J [] wm)
     (fun i _ => 1 - (intOf i).toNat)
    case atStart => exact ⟨rfl, hJ _ _ _ none hJs (World.grownBy_alloc _ _ none) (fun r e => by cases e)⟩
    case round =>
     obtain ⟨rfl, hJm⟩ := hrel
     gi_wp2
     go_roundw
     case rel => exact .inr ⟨by simp, by subst hLe; exact hJm⟩
     case measure => simp [intOf]
   ·gi_wp2
    go_end0
    exact ⟨⟨_, rfl⟩, .inl ⟨_, rfl, hJs⟩⟩
 ·obtain ⟨rfl, hb2⟩ := hC.adr hLe
  gi_wp2
  gi_loopw [11] (fun i wr => (i = .int .i64 0 ∧ wr = W) ∨ (i = .int .i64 1 ∧ J (List.finRange LL.flatten.length) wr))
   (fun i _ => 1 - (intOf i).toNat)
  case atStart => exact .inl ⟨rfl, rfl⟩
  case round =>
   rcases hrel with ⟨rfl, hwr⟩ | ⟨rfl, hJs⟩
   ·have hJs : J [] wr := by rw [hwr]; exact h0
    have hnx : Below n₀ W wr := by rw [hwr]; exact Below.refl _ _
    have hx1 : wr.cell? ⟨b1, o1, none⟩ = some (.slice (some ⟨b2, o2, none⟩) M c2) := by rw [hwr]; exact hc1
    have hsz : W.heap.size ≤ wr.heap.size := by rw [hwr]; exact Nat.le_refl _
    clear hwr
    gi_wp2
    gi_loopw [18] (fun i wm => ∃ k : Nat, k ≤ M ∧ i = .int .i64 k ∧ J (upto LL.flatten.length (offS LL k)) wm ∧ Below n₀ W wm ∧ W.heap.size ≤ wm.heap.size)
     (fun i _ => M - (intOf i).toNat)
    case atStart => exact ⟨0, Nat.zero_le _, rfl, hJ _ _ _ none hJs (World.grownBy_alloc _ _ none) (fun r e => by cases e), hnx.alloc (by omega) _, by simp; omega⟩
    case round =>
     obtain ⟨k, hk, rfl, hJm, hnm, hsm⟩ := hrel
     by_cases hkM : k < M
     ·obtain ⟨row, hrow⟩ : ∃ row, LL[k]? = some row := ⟨_, List.getElem?_eq_getElem (by omega)⟩
      obtain ⟨comb, a3, c3, b3, o3, gx2, gx3, hN3, hN, had, hsm3⟩ := hC.row k row hrow
      have hx2 := (hnm.cell (p := ⟨b2, o2 + k * 2, none⟩) hb2).trans gx2
      have hx3 := (hnm.cell (p := ⟨b2, o2 + k * 2 + 1, none⟩) hb2).trans gx3
      clear gx2 gx3
      have hos := offS_succ hrow
      have hidx : ∀ j s, row[j]? = some s → LL.flatten[offS LL k + j]? = some s := fun j s h => flat_idx hrow h
      obtain ⟨N, hNe⟩ : ∃ N, N = row.length := ⟨_, rfl⟩
      rw [← hNe] at hx3 hN3 hN hos
      by_cases hre : row = []
      ·have hN0 : N = 0 := by rw [hNe, hre]; rfl
       subst hN0
       clear hNe
       gi_wp2
       gi_loopw [25] (fun i wi => i = .int .i64 0 ∧ J (upto LL.flatten.length (offS LL k)) wi ∧ Below n₀ W wi ∧ W.heap.size ≤ wi.heap.size)
        (fun i _ => 1 - (intOf i).toNat)
       case atStart => exact ⟨rfl, hJ _ _ _ none hJm (World.grownBy_alloc _ _ none) (fun r e => by cases e), hnm.alloc (by omega) _, by simp; omega⟩
       case round =>
        obtain ⟨rfl, hJi, hni, hsi⟩ := hrel
        gi_wp2
        go_roundw
        case rel => exact ⟨k + 1, by omega, by simp, by rw [hos]; exact hJi, hni, hsi⟩
        case measure => simp [intOf]; omega
      ·obtain ⟨rfl, hb3⟩ := had hre
       gi_wp2
       gi_loopw [25] (fun i wi => ∃ j : Nat, j ≤ N ∧ i = .int .i64 j ∧ J (upto LL.flatten.length (offS LL k + j)) wi ∧ Below n₀ W wi ∧ W.heap.size ≤ wi.heap.size)
        (fun i _ => N - (intOf i).toNat)
       case atStart => exact ⟨0, Nat.zero_le _, rfl, hJ _ _ _ none hJm (World.grownBy_alloc _ _ none) (fun r e => by cases e), hnm.alloc (by omega) _, by simp; omega⟩
       case round =>
        obtain ⟨j, hj, rfl, hJi, hni, hsi⟩ := hrel
        by_cases hlt : j < N
        ·obtain ⟨s, hs⟩ : ∃ s, row[j]? = some s := ⟨_, List.getElem?_eq_getElem (by omega)⟩
         have hc4 := hsm3 j s hs
         have hcx : ∀ t, t < 11 → wr.cell? ⟨b3, o3 + j * 11 + t, none⟩ = s.cells[t]? := fun t ht => (hni.cell (p := ⟨b3, o3 + j * 11 + t, none⟩) hb3).trans (hc4 t ht)
         have hgi := hidx j s hs
         have hgl := (List.getElem?_eq_some_iff.1 hgi).1
         have hfin := hlt
         have x0 : wr.cell? ⟨b3, o3 + j * 11, none⟩ = some (.int .i64 s.kind) := (hcx 0 (by decide)).trans rfl
         have x1 : wr.cell? ⟨b3, o3 + j * 11 + 1, none⟩ = some (.int .i64 s.ns) := (hcx 1 (by decide)).trans rfl
         have x2 : wr.cell? ⟨b3, o3 + j * 11 + 2, none⟩ = some (.string s.pre) := (hcx 2 (by decide)).trans rfl
         have x3 : wr.cell? ⟨b3, o3 + j * 11 + 3, none⟩ = some (.string s.nm) := (hcx 3 (by decide)).trans rfl
         have x4 : wr.cell? ⟨b3, o3 + j * 11 + 4, none⟩ = some (.int .i64 s.op) := (hcx 4 (by decide)).trans rfl
         have x5 : wr.cell? ⟨b3, o3 + j * 11 + 5, none⟩ = some (.string s.tx) := (hcx 5 (by decide)).trans rfl
         have x6 : wr.cell? ⟨b3, o3 + j * 11 + 6, none⟩ = some (.bool s.fold) := (hcx 6 (by decide)).trans rfl
         have x7 : wr.cell? ⟨b3, o3 + j * 11 + 7, none⟩ = some (.int .i64 s.mark) := (hcx 7 (by decide)).trans rfl
         have x8 : wr.cell? ⟨b3, o3 + j * 11 + 8, none⟩ = some (.int .i64 s.a) := (hcx 8 (by decide)).trans rfl
         have x9 : wr.cell? ⟨b3, o3 + j * 11 + 9, none⟩ = some (.int .i64 s.b) := (hcx 9 (by decide)).trans rfl
         have x10 : wr.cell? ⟨b3, o3 + j * 11 + 10, none⟩ = some (.slice s.of_ s.n s.c) := (hcx 10 (by decide)).trans rfl
         have hse : smAt LL ⟨offS LL k + j, hgl⟩ = s := (List.getElem?_eq_some_iff.1 hgi).2
         obtain ⟨fn, tmps, assign, body, hy, hR⟩ := hY (upto LL.flatten.length (offS LL k + j)) ⟨offS LL k + j, hgl⟩ (wr.alloc (.cells #[.int .i64 s.kind, .int .i64 s.ns, .string s.pre, .string s.nm, .int .i64 s.op, .string s.tx, .bool s.fold, .int .i64 s.mark, .int .i64 s.a, .int .i64 s.b, .slice s.of_ s.n s.c] 42)) (hJ _ _ _ none hJi (World.grownBy_alloc _ _ none) (fun r e => by cases e)) (by rw [upto_length (by omega)]; exact hgl)
         rw [hse] at hy
         dsimp only [Sm.val] at hy
         clear hcx hs hc4 hse hgi
         gi_wp2
         refine hR.mono ?_
         rintro e W3 (⟨rfl, hJ3, hk3⟩ | ⟨rfl, hJx3⟩)
         ·gi_wp2
          go_roundw
          case rel => exact ⟨j + 1, by omega, by simp, by rw [show offS LL k + (j + 1) = (offS LL k + j) + 1 by omega, upto_succ hgl]; exact hJ3, (hni.alloc (by omega) _).trans hk3, by have := hk3.size; simp at this; omega⟩
          case measure => simp [intOf]; omega
         ·gi_wp2
          refine bodyPost_ret (results_none rfl _ _ _) rfl ?_
          exact ⟨⟨_, rfl⟩, .inr ⟨_, ⟨offS LL k + j + 1, by omega, (upto_succ hgl).symm⟩, hJx3⟩⟩
        ·obtain rfl : j = N := by omega
         gi_wp2
         go_roundw
         case rel => exact ⟨k + 1, by omega, by simp, by rw [hos]; exact hJi, hni, hsi⟩
         case measure => simp [intOf]; omega
     ·obtain rfl : k = M := by omega
      gi_wp2
      go_roundw
      case rel => exact .inr ⟨by simp, by have h := hJm; rw [hoff, upto_all] at h; exact h⟩
      case measure => simp [intOf]
   ·gi_wp2
    go_end0
    exact ⟨⟨_, rfl⟩, .inl ⟨_, rfl, hJs⟩⟩
theorem simplesM_stops (F : Fence) (n : Nat) (h21 : F.fn 114) (hro : F.round = none) (hn : 1 ≤ n) (Bs n₀ : Nat) (LL : List (List Sm)) (b1 o1 c1 : Nat) (a2 : Option Addr) (c2 b2 o2 : Nat)
  (w : World) (hB1 : b1 < w.heap.size) (hBl : Bs < w.heap.size) (hn₀ : n₀ ≤ w.heap.size) (hC : Cpx LL n₀ w a2 c2 b2 o2)
  (hBs : w.cell? ⟨Bs, 0, none⟩ = some (.slice (some ⟨b1, o1, none⟩) 1 c1)) (hc1 : w.cell? ⟨b1, o1, none⟩ = some (.slice a2 LL.length c2)) :
  SeqStopsK F n Tryz.prog 114 #[.pointer (some ⟨Bs, 0, none⟩)] (fun x : Fin LL.flatten.length => #[(smAt LL x).val]) (Below n₀) (fun ys => ys = List.finRange LL.flatten.length) (fun pre => ∃ k, k ≤ LL.flatten.length ∧ pre = upto LL.flatten.length k) LL.flatten.length w := fun l J Jx W hW hJ _ hY h0 =>
 simplesM_in F n h21 hro hn l Bs n₀ LL J Jx b1 o1 c1 a2 c2 b2 o2 W hJ hY (Nat.le_trans hn₀ hW.size) (hC.below (hW.mono hn₀))
  ((hW.cell (p := ⟨Bs, 0, none⟩) hBl).trans hBs) ((hW.cell (p := ⟨b1, o1, none⟩) hB1).trans hc1) h0
set_option maxRecDepth 100000 in
set_option maxHeartbeats 4000000 in
theorem spec_anyM (w : World) (LL : List (List Sm)) (a2 : Option Addr) (c2 b2 o2 : Nat) (hC : Cpx LL w.heap.size w a2 c2 b2 o2) (o : Fin LL.flatten.length → Int × Int × Int)
  (hone : ∀ (i : Fin LL.flatten.length) (W : World), Below w.heap.size w W → Calls Tryz.prog 86 #[(smAt LL i).val] W fun e W' => e = .returned (.agg (spV (o i))) ∧ Below W.heap.size W W') :
  Calls Tryz.prog 48 #[.agg #[.slice a2 LL.length c2]] w fun e W' => e = .returned (.agg (spV (sumS o (List.finRange LL.flatten.length)))) ∧ Below w.heap.size w W' := by
 refine (callsIn_wide (n := 9)).1 ?_
 refine callsIn_of_wp_marks Tryz.func48 rfl trivial ?_ rfl
 simp only [Tryz.ntmps48, List.size_toArray, List.length_cons, List.length_nil, Nat.reduceAdd, Nat.reduceSub, Array.replicate_succ, Array.replicate_zero, List.push_toArray, List.append_toArray, List.nil_append, List.cons_append]
 gi_wp2_with (refine ⟨trivial, ?_⟩; gi_at_call 85; refine (simples_in Fence.wide _ trivial rfl _ _ _ _).mono ?_; rintro e w' ⟨rfl, rfl⟩)
 have bS := ((BoxR.new (w.alloc (.cells #[.slice a2 LL.length c2] 48)) 63 #[.int .i64 0, .int .i64 0, .int .i64 0]).alloc (.cells #[.slice a2 LL.length c2] 48)).alloc (.cells #[.slice (some ⟨w.heap.size + 1 + 1, 0, none⟩) 1 1] 23)
 have bL := (BoxR.new ((w.alloc (.cells #[.slice a2 LL.length c2] 48)).alloc (.cells #[.int .i64 0, .int .i64 0, .int .i64 0] 63)) 48 #[.slice a2 LL.length c2]).alloc (.cells #[.slice (some ⟨w.heap.size + 1 + 1, 0, none⟩) 1 1] 23)
 have bB := BoxR.new (((w.alloc (.cells #[.slice a2 LL.length c2] 48)).alloc (.cells #[.int .i64 0, .int .i64 0, .int .i64 0] 63)).alloc (.cells #[.slice a2 LL.length c2] 48)) 23 #[.slice (some ⟨w.heap.size + 1 + 1, 0, none⟩) 1 1]
 have hB0 : Below w.heap.size w ((((w.alloc (.cells #[.slice a2 LL.length c2] 48)).alloc (.cells #[.int .i64 0, .int .i64 0, .int .i64 0] 63)).alloc (.cells #[.slice a2 LL.length c2] 48)).alloc (.cells #[.slice (some ⟨w.heap.size + 1 + 1, 0, none⟩) 1 1] 23)) :=
  ((((Below.refl _ w).alloc (Nat.le_refl _) _).alloc (by simp) _).alloc (by simp; omega) _).alloc (by simp; omega) _
 have hsz : ((((w.alloc (.cells #[.slice a2 LL.length c2] 48)).alloc (.cells #[.int .i64 0, .int .i64 0, .int .i64 0] 63)).alloc (.cells #[.slice a2 LL.length c2] 48)).alloc (.cells #[.slice (some ⟨w.heap.size + 1 + 1, 0, none⟩) 1 1] 23)).heap.size = w.heap.size + 4 := by simp
 simp only [World.size_alloc] at bS bL bB
 obtain ⟨W0, hW0⟩ : ∃ W0, ((((w.alloc (.cells #[.slice a2 LL.length c2] 48)).alloc (.cells #[.int .i64 0, .int .i64 0, .int .i64 0] 63)).alloc (.cells #[.slice a2 LL.length c2] 48)).alloc (.cells #[.slice (some ⟨w.heap.size + 1 + 1, 0, none⟩) 1 1] 23)) = W0 := ⟨_, rfl⟩
 rw [hW0] at bS bL bB hB0 hsz ⊢
 clear hW0
 have hC0 := hC.below hB0
 refine wpIn_rangeFunc_ownH (F := Fence.wide) (n := 9) rfl (by omega) (gf := 114) (lb := #[.pointer (some ⟨w.heap.size + 1 + 1 + 1, 0, none⟩)]) rfl trivial (enters_of Tryz.func114 (by kernel_rfl) rfl)
  (simplesM_stops Fence.wide 8 trivial rfl (by omega) (w.heap.size + 1 + 1 + 1) w.heap.size LL (w.heap.size + 1 + 1) 0 1 a2 c2 b2 o2 W0 (by omega) (by omega) (by omega) hC0 (bB.cell 0) (bL.cell 0)) belowK_t (belowK_b (by omega)) (Below.refl _ _) (fun _ => rfl)
  (fun pre W => BoxR W (w.heap.size + 1) 63 (spV (sumS o pre)) ∧ Below w.heap.size w W)
  (fun _ _ _ => False)
  (OwnFrom.and (Own.from (boxR_own _ _ _) _) (ownFrom_below (Nat.le_refl _) (by omega)))
  (fun _ _ _ _ _ hs _ _ => hs)
  ⟨bS, hB0⟩
  (fun x a' W => ∃ Bx, w.heap.size + 1 < Bx ∧ BoxR W Bx 42 (smAt LL x).cells.toArray ∧ a' = { tmps := #[.agg #[.slice a2 LL.length c2], .pointer (some ⟨w.heap.size, 0, none⟩), .pointer (some ⟨w.heap.size + 1, 0, none⟩), .pointer (some ⟨Bx, 0, none⟩), undef, .agg #[.slice a2 LL.length c2], .slice (some ⟨w.heap.size + 1 + 1, 0, none⟩) 1 1, .func (.func 114) #[] #[.pointer (some ⟨w.heap.size + 1 + 1 + 1, 0, none⟩)], (smAt LL x).val, undef, undef, undef, undef, undef, undef, undef, undef, undef, undef, undef, undef, undef, undef, undef, undef, undef, undef, undef, undef, undef], defers := [] })
  (fun x a' _ X Y row hs hg hr => by obtain ⟨Bx, h1, h2, h3⟩ := hs; exact ⟨Bx, h1, boxR_own Bx 42 (fun (_ : Unit) => (smAt LL x).cells.toArray) () X Y row h2 hg (fun r e => (hr r e).2), h3⟩)
  ?assign ?body ?done ?stop
 case assign =>
  rintro l pre x W K ⟨bS1, hB1⟩ hK
  have hK' := hK
  dsimp only [Sm.val, Sm.cells] at hK'
  dsimp only [Sm.val]
  gi_wp2
  exact hK' _ _ ((KeepsOthers.alloc _ _).from _) ((Below.refl _ W).alloc hB1.size _) ⟨bS1.alloc _, hB1.alloc hB1.size _⟩ ⟨W.heap.size, bS1.lt, BoxR.new W 42 _, rfl⟩
 case body =>
  rintro l pre x a' W hl ⟨r, hr⟩ ⟨bS1, hB1⟩ ⟨Bx, hBx, bX, rfl⟩ hlt
  have x0 : W.cell? ⟨Bx, 0, none⟩ = some (.int .i64 (smAt LL x).kind) := bX.cell 0
  have x1 : W.cell? ⟨Bx, 1, none⟩ = some (.int .i64 (smAt LL x).ns) := bX.cell 1
  have x2 : W.cell? ⟨Bx, 2, none⟩ = some (.string (smAt LL x).pre) := bX.cell 2
  have x3 : W.cell? ⟨Bx, 3, none⟩ = some (.string (smAt LL x).nm) := bX.cell 3
  have x4 : W.cell? ⟨Bx, 4, none⟩ = some (.int .i64 (smAt LL x).op) := bX.cell 4
  have x5 : W.cell? ⟨Bx, 5, none⟩ = some (.string (smAt LL x).tx) := bX.cell 5
  have x6 : W.cell? ⟨Bx, 6, none⟩ = some (.bool (smAt LL x).fold) := bX.cell 6
  have x7 : W.cell? ⟨Bx, 7, none⟩ = some (.int .i64 (smAt LL x).mark) := bX.cell 7
  have x8 : W.cell? ⟨Bx, 8, none⟩ = some (.int .i64 (smAt LL x).a) := bX.cell 8
  have x9 : W.cell? ⟨Bx, 9, none⟩ = some (.int .i64 (smAt LL x).b) := bX.cell 9
  have x10 : W.cell? ⟨Bx, 10, none⟩ = some (.slice (smAt LL x).of_ (smAt LL x).n (smAt LL x).c) := bX.cell 10
  have hO := hone x W hB1
  dsimp only [Sm.val, spV] at hO
  gi_wp2_with (refine ⟨trivial, ?_⟩; gi_at_call 86; refine (CallsIn.inRound l (callsIn_wide.2 hO)).mono ?_; rintro e W2 ⟨rfl, hb2'⟩; have bS2 := bS1.below hb2' bS1.lt; have s0 : W2.cell? ⟨w.heap.size + 1, 0, none⟩ = some (.int .i64 (sumS o pre).1) := bS2.cell 0; have s1 : W2.cell? ⟨w.heap.size + 1, 1, none⟩ = some (.int .i64 (sumS o pre).2.1) := bS2.cell 1; have s2 : W2.cell? ⟨w.heap.size + 1, 2, none⟩ = some (.int .i64 (sumS o pre).2.2) := bS2.cell 2)
  have b4 := BoxR.new W2 63 #[.int .i64 (o x).1, .int .i64 (o x).2.1, .int .i64 (o x).2.2]
  have bS3 := bS2.alloc (.cells #[.int .i64 (o x).1, .int .i64 (o x).2.1, .int .i64 (o x).2.2] 63)
  have hB3 : Below W.heap.size W (W2.alloc (.cells #[.int .i64 (o x).1, .int .i64 (o x).2.1, .int .i64 (o x).2.2] 63)) := hb2'.alloc hb2'.size _
  have hne : w.heap.size + 1 < W2.heap.size := Nat.lt_of_lt_of_le bS1.lt hb2'.size
  generalize W2.heap.size = B4 at *
  obtain ⟨W3, hW3⟩ : ∃ W3, W2.alloc (.cells #[.int .i64 (o x).1, .int .i64 (o x).2.1, .int .i64 (o x).2.2] 63) = W3 := ⟨_, rfl⟩
  rw [hW3] at b4 bS3 hB3 ⊢
  clear hW3 s0 s1 s2 x0 x1 x2 x3 x4 x5 x6 x7 x8 x9 x10 hO bX bS2 hb2'
  refine reg4_in (n₀ := w.heap.size) (B1 := w.heap.size + 1) (B4 := B4) ⟨Nat.le_succ _, by omega⟩ rfl rfl rfl bS3 b4 (fun a' w' hS hk hb => ?_)
  refine ⟨?_, (hB3.mono hB1.size).trans hb, ?_, hB1.trans ((hB3.mono hB1.size).trans hb)⟩
  ·exact ((keeps_below hB3).trans hk).from _
  ·rw [sumS_snoc]
   exact hS
 case done =>
  rintro D ys W hD rfl ⟨bS1, hB1⟩ hK
  have hDn : D ≠ w.heap.size + 1 := by omega
  have s0 : W.cell? ⟨w.heap.size + 1, 0, none⟩ = some (.int .i64 (sumS o (List.finRange LL.flatten.length)).1) := bS1.cell 0
  have s1 : W.cell? ⟨w.heap.size + 1, 1, none⟩ = some (.int .i64 (sumS o (List.finRange LL.flatten.length)).2.1) := bS1.cell 1
  have s2 : W.cell? ⟨w.heap.size + 1, 2, none⟩ = some (.int .i64 (sumS o (List.finRange LL.flatten.length)).2.2) := bS1.cell 2
  have t0 := bS1.frozen 0
  have t1 := bS1.frozen 1
  have t2 := bS1.frozen 2
  obtain ⟨S, hSS⟩ : ∃ S, Hid1 (S = sumS o (List.finRange LL.flatten.length)) := ⟨_, rfl⟩
  rw [← (show S = _ from hSS)] at s0 s1 s2 bS1
  gi_wp2
  have bW := ((bS1.set 0 (.int .i64 S.1)).set 1 (.int .i64 S.2.1)).set 2 (.int .i64 S.2.2)
  have hBW := ((hB1.setCell (p := ⟨w.heap.size + 1, 0, none⟩) (Nat.le_succ _) (.int .i64 S.1)).setCell (p := ⟨w.heap.size + 1, 1, none⟩) (Nat.le_succ _) (.int .i64 S.2.1)).setCell (p := ⟨w.heap.size + 1, 2, none⟩) (Nat.le_succ _) (.int .i64 S.2.2)
  have hKW : (((W.setCell ⟨w.heap.size + 1, 0, none⟩ (.int .i64 S.1)).setCell ⟨w.heap.size + 1, 1, none⟩ (.int .i64 S.2.1)).setCell ⟨w.heap.size + 1, 2, none⟩ (.int .i64 S.2.2)).heap[D]? = some (.deferred (some [])) := by
   simp [World.setCell, Array.getElem?_modify, Ne.symm hDn, hK]
  generalize ((W.setCell ⟨w.heap.size + 1, 0, none⟩ (.int .i64 S.1)).setCell ⟨w.heap.size + 1, 1, none⟩ (.int .i64 S.2.1)).setCell ⟨w.heap.size + 1, 2, none⟩ (.int .i64 S.2.2) = W9 at *
  refine ⟨by simp, .inl ⟨_, _, rfl, run_takeDeferred hKW, ?_⟩⟩
  have bP : BoxR (W9.putObj D (.deferred none)) (w.heap.size + 1) 63 (spV S) := (show BoxR W9 _ 63 (spV S) from bW).kept (grownBy_putObj' _ _ _) (fun e => hDn (Option.some.inj e).symm)
  have p0 : (W9.putObj D (.deferred none)).cell? ⟨w.heap.size + 1, 0, none⟩ = some (.int .i64 S.1) := bP.cell 0
  have p1 : (W9.putObj D (.deferred none)).cell? ⟨w.heap.size + 1, 1, none⟩ = some (.int .i64 S.2.1) := bP.cell 1
  have p2 : (W9.putObj D (.deferred none)).cell? ⟨w.heap.size + 1, 2, none⟩ = some (.int .i64 S.2.2) := bP.cell 2
  refine ⟨.agg (spV S), ?_, by rw [show S = _ from hSS], hBW.trans (belowK_b (w := w) (Nat.le_refl _) W9 D _ _ (by omega) hKW rfl rfl)⟩
  generalize W9.putObj D (.deferred none) = W10 at *
  unfold spV
  simp [results, go_sem, p0, p1, p2, Tryz.f48]
 case stop =>
  rintro D c pre W _ _ h _
  exact h.elim
end Go.Proofs.YtcogfddcdpgpkaaGreatDoor
namespace Go.Av
open Go.Proofs Go.RowKit Go.Proofs.YtcogfddcdpgpkaaGreatDoor
theorem list_form0 {F : Nat → Nat → Prop} {w : World} {v : Value} {es : List D} {sz : Nat} (hd : Den0 F w v (.list es)) (hs : ∀ e ∈ es, (dcells e).length = sz) :
  ∃ a c b off, v = .slice a es.length c ∧ es.length ≤ c ∧ (es ≠ [] → a = some ⟨b, off, none⟩) ∧ ∀ (i j : Nat) (x : D) (y : D), es[i]? = some x → (dcells x)[j]? = some y → ∃ u, w.cell? ⟨b, off + (i * sz + j), none⟩ = some u ∧ Den0 F w u y ∧ u.oneCell' = true := by
 by_cases h : es = []
 ·subst h
  cases hd with
  | list a n c sz' es vs h1 h2 h3 h4 h5 h6 h7 =>
   subst h1
   exact ⟨a, c, 0, 0, rfl, h2, fun h => absurd rfl h, fun i j x y hi => by simp at hi⟩
 ·obtain ⟨b, off, c, h1, h2, h3⟩ := list_form hd hs h
  exact ⟨_, c, b, off, h1, h2, fun _ => rfl, h3⟩
theorem list_choice {α β : Type} {P : Nat → α → β → Prop} : ∀ (l : List α), (∀ (i : Nat) x, l[i]? = some x → ∃ y, P i x y) → ∃ l' : List β, l'.length = l.length ∧ ∀ (i : Nat) x y, l[i]? = some x → l'[i]? = some y → P i x y
 | [], _ => ⟨[], rfl, fun i x y h => by simp at h⟩
 | x :: r, h => by
  obtain ⟨y, hy⟩ := h 0 x rfl
  obtain ⟨l', h1, h2⟩ := list_choice (P := fun i => P (i + 1)) r (fun i z hz => h (i + 1) z (by simpa using hz))
  refine ⟨y :: l', by simp [h1], fun i z u hz hu => ?_⟩
  cases i with
  | zero => simp at hz hu; subst hz hu; exact hy
  | succ i => exact h2 i z u (by simpa using hz) (by simpa using hu)
theorem flat2 {α β : Type} {R : α → β → Prop} : ∀ (LL : List (List α)) (XX : List (List β)), LL.length = XX.length →
  (∀ (i : Nat) r x, LL[i]? = some r → XX[i]? = some x → r.length = x.length ∧ ∀ (j : Nat) s d, r[j]? = some s → x[j]? = some d → R s d) →
  LL.flatten.length = XX.flatten.length ∧ ∀ (i : Nat) s d, LL.flatten[i]? = some s → XX.flatten[i]? = some d → R s d
 | [], [], _, _ => ⟨rfl, fun i s d h => by simp at h⟩
 | [], _ :: _, h, _ => by simp at h
 | _ :: _, [], h, _ => by simp at h
 | r :: LL, x :: XX, hl, h => by
  obtain ⟨h1, h2⟩ := h 0 r x rfl rfl
  obtain ⟨h3, h4⟩ := flat2 LL XX (by simpa using hl) (fun i r x hr hx => h (i + 1) r x (by simpa using hr) (by simpa using hx))
  refine ⟨by simp only [List.flatten_cons, List.length_append]; omega, fun i s d hs hd => ?_⟩
  rw [List.flatten_cons] at hs hd
  by_cases hi : i < r.length
  ·rw [List.getElem?_append_left hi] at hs
   rw [List.getElem?_append_left (by omega)] at hd
   exact h2 i s d hs hd
  ·rw [List.getElem?_append_right (by omega)] at hs
   rw [List.getElem?_append_right (by omega)] at hd
   rw [← h1] at hd
   exact h4 _ s d hs hd
abbrev T3 := Int × Int × Int
def add3 (s x : T3) : T3 := (IntKind.i64.wrap (s.1 + x.1), IntKind.i64.wrap (s.2.1 + x.2.1), IntKind.i64.wrap (s.2.2 + x.2.2))
def sumL (o : D → T3) (ss : List D) : T3 := ss.foldl (fun s d => add3 s (o d)) (0, 0, 0)
theorem wrap_kit (n : Int) : RowKit.wrap64 n = IntKind.i64.wrap n := by
 have e : IntKind.i64.wrap n = if n % 18446744073709551616 ≥ 9223372036854775808 then n % 18446744073709551616 - 18446744073709551616 else n % 18446744073709551616 := by
  show (if (true && decide (n % 18446744073709551616 ≥ 9223372036854775808)) = true then n % 18446744073709551616 - 18446744073709551616 else n % 18446744073709551616) = _
  simp only [Bool.true_and, decide_eq_true_eq]
 rw [e]
 unfold RowKit.wrap64
 split <;> omega
theorem sum_fin (o : D → T3) (ds : List D) {T : Nat} (h : T = ds.length) : sumS (fun i : Fin T => o (ds.getD i.1 .bad)) (List.finRange T) = sumL o ds := by
 subst h
 unfold sumS sumL
 have e : ds = (List.finRange ds.length).map (fun i => ds.getD i.1 .bad) := by
  refine List.ext_getElem? fun i => ?_
  by_cases hi : i < ds.length
  ·simp [List.getElem?_map, hi, List.getD]
  ·simp [List.getElem?_map, hi]
 conv => rhs; rw [e]
 rw [List.foldl_map]
 unfold add3
 simp only [wrap_kit]
theorem spec_denM (w : World) (v : Value) (X : List D) (hd : Den0 (old w) w v (cxD X)) (hl : X.length ≤ 1000000) (hX : ∀ x ∈ X, x = cpD (cpC x) (cpL x) ∧ (cpL x).length ≤ 1000000 ∧ ∀ s ∈ cpL x, isSm s = true) (o : D → T3)
  (hone : ∀ x ∈ X, ∀ s ∈ cpL x, ∀ (W : World) (u : Value), Below w.heap.size w W → Den0 (old W) W u s → Calls Tryz.prog 86 #[u] W fun e W' => e = .returned (.agg (spV (o s))) ∧ Below W.heap.size W W') :
  Calls Tryz.prog 48 #[v] w fun e W' => e = .returned (.agg (spV (sumL o (X.flatMap cpL)))) ∧ Below w.heap.size w W' := by
 unfold cxD at hd
 cases hd with
 | agg vs cs h1 h2 h3 =>
  match vs, h1 with
  | [L], _ =>
   have dL := h3 0 L _ rfl rfl
   obtain ⟨a2, c2, b2, o2, rfl, hc2, had, hcell⟩ := list_form0 (sz := 2) dL (fun x hx => by rw [(hX x hx).1]; rfl)
   have hrow : ∀ (i : Nat) x, X[i]? = some x → ∃ row : List Sm, (∃ comb a3 c3 b3 o3, w.cell? ⟨b2, o2 + i * 2, none⟩ = some (.int .i64 comb) ∧ w.cell? ⟨b2, o2 + i * 2 + 1, none⟩ = some (.slice a3 row.length c3) ∧ row.length ≤ c3 ∧ row.length ≤ 1000000 ∧
     (row ≠ [] → a3 = some ⟨b3, o3, none⟩ ∧ b3 < w.heap.size) ∧ ∀ (j : Nat) (s : Sm), row[j]? = some s → ∀ t, t < 11 → w.cell? ⟨b3, o3 + j * 11 + t, none⟩ = s.cells[t]?) ∧ row.length = (cpL x).length ∧ ∀ (j : Nat) s d, row[j]? = some s → (cpL x)[j]? = some d → Den0 (old w) w s.val d := by
    intro i x hx
    obtain ⟨e, hlx, hsx⟩ := hX x (List.mem_of_getElem? hx)
    obtain ⟨u0, e0, d0, _⟩ := hcell i 0 x (.int .i64 (cpC x)) hx (by rw [e]; rfl)
    obtain ⟨u1, e1, d1, _⟩ := hcell i 1 x (.list (cpL x)) hx (by rw [e]; rfl)
    cases d0
    obtain ⟨a3, c3, b3, o3, rfl, hc3, had3, hcell3⟩ := list_form0 (sz := 11) d1 (fun s h => isSm_len (hsx s h))
    have hS : ∀ (j : Nat) d, (cpL x)[j]? = some d → ∃ s : Sm, (∀ t, t < 11 → w.cell? ⟨b3, o3 + j * 11 + t, none⟩ = s.cells[t]?) ∧ Den0 (old w) w s.val d := fun j d hj =>
     sm_of (hsx d (List.mem_of_getElem? hj)) (fun t y hy => by
      have := hcell3 j t d y hj hy
      rw [← Nat.add_assoc] at this
      exact this)
    obtain ⟨row, hr1, hr2⟩ := list_choice (P := fun j d s => (∀ t, t < 11 → w.cell? ⟨b3, o3 + j * 11 + t, none⟩ = (Sm.cells s)[t]?) ∧ Den0 (old w) w (Sm.val s) d) (cpL x) hS
    have hat : ∀ (j : Nat) s, row[j]? = some s → ∃ d, (cpL x)[j]? = some d := fun j s hs => ⟨_, List.getElem?_eq_getElem (by rw [← hr1]; exact (List.getElem?_eq_some_iff.1 hs).1)⟩
    refine ⟨row, ⟨cpC x, a3, c3, b3, o3, ?_, ?_, by omega, by omega, fun hne => ?_, fun j s hs => ?_⟩, hr1, fun j s d hs hd => (hr2 j d s hd hs).2⟩
    ·rw [Nat.add_zero] at e0; exact e0
    ·rw [← Nat.add_assoc, ← hr1] at e1; exact e1
    ·have hne' : cpL x ≠ [] := by rintro h; rw [h] at hr1; exact hne (List.eq_nil_of_length_eq_zero hr1)
     refine ⟨had3 hne', ?_⟩
     obtain ⟨d, r, hdr⟩ := List.exists_cons_of_ne_nil hne'
     obtain ⟨s, hs, _⟩ := hS 0 d (by rw [hdr]; rfl)
     exact cell_old ((hs 0 (by decide)).trans rfl)
    ·obtain ⟨d, hd⟩ := hat j s hs
     exact (hr2 j d s hd hs).1
   obtain ⟨LL, hL1, hL2⟩ := list_choice X hrow
   have hLX : ∀ (i : Nat) r, LL[i]? = some r → ∃ x, X[i]? = some x := fun i r hr => ⟨_, List.getElem?_eq_getElem (by rw [← hL1]; exact (List.getElem?_eq_some_iff.1 hr).1)⟩
   have hC : Cpx LL w.heap.size w a2 c2 b2 o2 := by
    refine ⟨by omega, by omega, fun hne => ?_, fun i row hr => ?_⟩
    ·have hne' : X ≠ [] := by rintro h; rw [h] at hL1; exact hne (List.eq_nil_of_length_eq_zero hL1)
     refine ⟨had hne', ?_⟩
     obtain ⟨x, r, hxr⟩ := List.exists_cons_of_ne_nil hne'
     obtain ⟨row, ⟨comb, _, _, _, _, hc, _⟩, _⟩ := hrow 0 x (by rw [hxr]; rfl)
     exact cell_old hc
    ·obtain ⟨x, hx⟩ := hLX i row hr
     exact (hL2 i x row hx hr).1
   have hXX : X.flatMap cpL = (X.map cpL).flatten := List.flatMap_def ..
   obtain ⟨hT, hR⟩ := flat2 (R := fun s d => Den0 (old w) w (Sm.val s) d) LL (X.map cpL) (by rw [List.length_map]; exact hL1) (fun i r x hr hx => by
    obtain ⟨y, hy⟩ := hLX i r hr
    rw [List.getElem?_map, hy] at hx
    simp only [Option.map_some, Option.some.injEq] at hx
    subst hx
    obtain ⟨_, g1, g2⟩ := hL2 i y r hy hr
    exact ⟨g1, g2⟩)
   rw [← hXX] at hT hR
   have hk := spec_anyM w LL a2 c2 b2 o2 hC (fun i => o ((X.flatMap cpL).getD i.1 .bad)) (fun i W hb => by
    have hi : i.1 < (X.flatMap cpL).length := by rw [← hT]; exact i.2
    have hd : (X.flatMap cpL)[i.1]? = some (X.flatMap cpL)[i.1] := List.getElem?_eq_getElem hi
    have hg : (X.flatMap cpL).getD i.1 .bad = (X.flatMap cpL)[i.1] := by unfold List.getD; rw [hd]; rfl
    rw [hg]
    obtain ⟨x, hx1, hx2⟩ := List.mem_flatMap.1 (List.getElem_mem hi)
    have hden := hR i.1 (smAt LL i) _ (List.getElem?_eq_getElem i.2) hd
    exact hone x hx1 _ hx2 W _ hb (hden.ext (ext_below hb)))
   rw [sum_fin o (X.flatMap cpL) hT] at hk
   rw [← hL1]
   exact hk
end Go.Av
namespace Go.Av
abbrev Sp3 := Int × Int × Int
def lessT (x y : Sp3) : Bool := if x.1 != y.1 then decide (x.1 < y.1) else if x.2.1 != y.2.1 then decide (x.2.1 < y.2.1) else decide (x.2.2 < y.2.2)
theorem lessT_iff {x y : Sp3} : lessT x y = true ↔ x.1 < y.1 ∨ (x.1 = y.1 ∧ (x.2.1 < y.2.1 ∨ (x.2.1 = y.2.1 ∧ x.2.2 < y.2.2))) := by
 unfold lessT
 by_cases h1 : x.1 = y.1
 ·by_cases h2 : x.2.1 = y.2.1
  ·simp [h1, h2]
  ·simp [h1, h2]
 ·simp [h1]
theorem lessT_tot {x y : Sp3} (h1 : ¬ lessT x y = true) (h2 : ¬ lessT y x = true) : x = y := by
 rw [lessT_iff] at h1 h2
 obtain ⟨a, b, c⟩ := x
 obtain ⟨d, e, f⟩ := y
 simp only at h1 h2
 simp only [Prod.mk.injEq]
 omega
theorem lessT_trans {x y z : Sp3} (h1 : ¬ lessT y x = true) (h2 : ¬ lessT z y = true) : ¬ lessT z x = true := by
 rw [lessT_iff] at h1 h2 ⊢
 omega
theorem lessT_asym {x y : Sp3} (h1 : lessT x y = true) : ¬ lessT y x = true := by
 rw [lessT_iff] at h1 ⊢
 omega
def mx (x y : Sp3) : Sp3 := if lessT x y = true then y else x
theorem mx_l (x y : Sp3) : ¬ lessT (mx x y) x = true := by
 unfold mx
 split
 ·rename_i h
  exact lessT_asym h
 ·intro h
  exact lessT_asym h h
theorem mx_r (x y : Sp3) : ¬ lessT (mx x y) y = true := by
 unfold mx
 split
 ·intro h
  exact lessT_asym h h
 ·rename_i h
  exact h
theorem mx_least {x y z : Sp3} (h1 : ¬ lessT z x = true) (h2 : ¬ lessT z y = true) : ¬ lessT z (mx x y) = true := by
 unfold mx
 split
 ·exact h2
 ·exact h1
theorem mx_eq {x y z : Sp3} (h1 : ¬ lessT z x = true) (h2 : ¬ lessT z y = true) (h3 : ¬ lessT (mx x y) z = true) : z = mx x y := lessT_tot (mx_least h1 h2) h3
def bestT (l : List Sp3) (s : Sp3) : Sp3 := l.foldl mx s
theorem bestT_up : ∀ (l : List Sp3) (s : Sp3), ¬ lessT (bestT l s) s = true
 | [], s => fun h => lessT_asym h h
 | x :: r, s => lessT_trans (mx_l s x) (bestT_up r (mx s x))
theorem bestT_mx : ∀ (l : List Sp3) (x z : Sp3), ¬ lessT x z = true → bestT l x = mx x (bestT l z)
 | [], x, z, h => by
  show x = mx x z
  unfold mx
  rw [if_neg h]
 | c :: r, x, z, h => by
  have hm : ¬ lessT (mx x c) (mx z c) = true := mx_least (lessT_trans h (mx_l x c)) (mx_r x c)
  have ih := bestT_mx r (mx x c) (mx z c) hm
  have e : bestT (c :: r) x = bestT r (mx x c) := rfl
  have e' : bestT (c :: r) z = bestT r (mx z c) := rfl
  rw [e, e', ih]
  have hY : ¬ lessT (bestT r (mx z c)) c = true := lessT_trans (mx_r z c) (bestT_up r (mx z c))
  generalize bestT r (mx z c) = Y at *
  refine mx_eq ?_ ?_ ?_
  ·exact lessT_trans (mx_l x c) (mx_l (mx x c) Y)
  ·exact mx_r (mx x c) Y
  ·exact mx_least (mx_least (mx_l x Y) (lessT_trans hY (mx_r x Y))) (mx_r x Y)
theorem bestT_app (a b : List Sp3) : bestT (a ++ b) (0, 0, 0) = mx (bestT a (0, 0, 0)) (bestT b (0, 0, 0)) := by
 have e : bestT (a ++ b) (0, 0, 0) = bestT b (bestT a (0, 0, 0)) := List.foldl_append
 rw [e]
 exact bestT_mx b _ _ (bestT_up a _)
def specV (sel : D → Bool) (sp : D → Sp3) (l : List D) : Sp3 × Bool := (bestT ((l.filter sel).map sp) (0, 0, 0), l.any sel)
theorem specV_app (sel : D → Bool) (sp : D → Sp3) (a b : List D) : specV sel sp (a ++ b) = (mx (specV sel sp a).1 (specV sel sp b).1, (specV sel sp a).2 || (specV sel sp b).2) := by
 unfold specV
 rw [List.filter_append, List.map_append, bestT_app, List.any_append]
end Go.Av
set_option maxRecDepth 10000
namespace Go.Av.Yq
open Go.Proofs Go.Av
theorem ty63 : aggOf Tryz.prog 63 = some true ∧ sizeT Tryz.prog 63 = some 3 := ⟨by kernel_rfl, by kernel_rfl⟩
theorem dp63 (x0 x1 x2 : D) : dpart Tryz.prog 63 [x0, x1, x2] 0 = some (.agg [x0, x1, x2]) := by simp only [dpart, ty63.1, ty63.2]; rfl
theorem fa63_0 (d : D) (off : Nat) : dfieldAddr Tryz.prog 63 (.fix d off) 0 = some (.fix d (off + 0)) := by kernel_rfl
theorem fp63_0 (k g off : Nat) : dfieldAddr Tryz.prog 63 (.ptr k g off) 0 = some (.ptr k g (off + 0)) := by kernel_rfl
theorem fa63_1 (d : D) (off : Nat) : dfieldAddr Tryz.prog 63 (.fix d off) 1 = some (.fix d (off + 1)) := by kernel_rfl
theorem fp63_1 (k g off : Nat) : dfieldAddr Tryz.prog 63 (.ptr k g off) 1 = some (.ptr k g (off + 1)) := by kernel_rfl
theorem fa63_2 (d : D) (off : Nat) : dfieldAddr Tryz.prog 63 (.fix d off) 2 = some (.fix d (off + 2)) := by kernel_rfl
theorem fp63_2 (k g off : Nat) : dfieldAddr Tryz.prog 63 (.ptr k g off) 2 = some (.ptr k g (off + 2)) := by kernel_rfl
theorem ty54 : elemT Tryz.prog 54 = some 51 ∧ Tryz.prog.underlying 54 = some (.slice 51) ∧ aggOf Tryz.prog 54 = some false := ⟨by kernel_rfl, by kernel_rfl, by kernel_rfl⟩
theorem dp54 (cs : List D) (off : Nat) : dpart Tryz.prog 54 cs off = cs[off]? := by simp only [dpart, ty54.2.2]
theorem ia54 (es : List D) (ki : IntKind) (i : Int) : dindexAddr Tryz.prog 54 (.list es) (.int ki i) = if 0 ≤ i ∧ i < es.length then (if (dcells (es.getD i.toNat .bad)).length = 2 then some (.fix (es.getD i.toNat .bad) 0) else none) else none := by
 simp only [dindexAddr, ty54.1, Ys.ty51.2]
theorem len54 (l : List D) : dlen Tryz.prog #[54] (.list l) = some (.int .i64 l.length) := by kernel_rfl
theorem bd63_0 : dbuild Tryz.prog 63 [] = some (.agg [.int .i64 0, .int .i64 0, .int .i64 0]) := by kernel_rfl
theorem bd63_3 (a b c : Int) : dbuild Tryz.prog 63 [(0, .int .i64 a), (1, .int .i64 b), (2, .int .i64 c)] = some (.agg [.int .i64 a, .int .i64 b, .int .i64 c]) := by kernel_rfl
theorem bs81_3 (a b c : Int) : dbuildSlice Tryz.prog 81 3 [(0, .int .i64 a), (1, .int .i64 b), (2, .int .i64 c)] = some (.list [.int .i64 a, .int .i64 b, .int .i64 c]) := by kernel_rfl
theorem bs54_1 (n : Int) (s : List UInt8) : dbuildSlice Tryz.prog 54 1 [(0, .agg [.int .i64 n, .str s])] = some (.list [.agg [.int .i64 n, .str s]]) := by kernel_rfl
theorem bs54_0 : dbuildSlice Tryz.prog 54 0 [] = some (.list []) := by kernel_rfl
theorem zrm63 : zrooms Tryz.prog 63 = [.no, .no, .no] := by kernel_rfl
theorem zrm48 : zrooms Tryz.prog 48 = [.full] := by kernel_rfl
theorem bs23_0 : dbuildSlice Tryz.prog 23 0 [] = some (.list []) := by kernel_rfl
theorem eq63 (a b c a' b' c' : Int) : dStructEq Tryz.prog 63 [.int .i64 a, .int .i64 b, .int .i64 c] [.int .i64 a', .int .i64 b', .int .i64 c'] = some (a == a' && (b == b' && c == c')) := by
 have h : dStructEq Tryz.prog 63 [.int .i64 a, .int .i64 b, .int .i64 c] [.int .i64 a', .int .i64 b', .int .i64 c'] = (match some (a == a') with | some true => (match some (b == b') with | some true => (match some (c == c') with | some true => some true | r => r) | r => r) | r => r) := by kernel_rfl
 rw [h]
 cases (a == a') <;> cases (b == b') <;> cases (c == c') <;> rfl
theorem eq51 (a a' : Int) (s s' : List UInt8) : dStructEq Tryz.prog 51 [.int .i64 a, .str s] [.int .i64 a', .str s'] = some (a == a' && s == s') := by
 have h : dStructEq Tryz.prog 51 [.int .i64 a, .str s] [.int .i64 a', .str s'] = (match some (a == a') with | some true => (match some (s == s') with | some true => some true | r => r) | r => r) := by kernel_rfl
 rw [h]
 cases (a == a') <;> cases (s == s') <;> rfl
theorem ap23 (es fs : List D) (r : List Room) : dappend Tryz.prog #[23, 23] (.list es) (.list fs) r = if lenOk (es.length + fs.length) 24 = true ∧ szOk 1 fs = true ∧ szOk 1 es = true ∧ (r = [.full] ∨ r = [.own 48] ∨ r = [.fresh]) then some (.list (es ++ fs), 48) else none := by
 have : (Tryz.prog.info? 48).map (fun i => (infoOk i, i.size, i.bytes)) = some (true, 1, 24) := by kernel_rfl
 obtain ⟨i, hi, h⟩ := Option.map_eq_some_iff.1 this
 injection h with h1 h2
 injection h2 with h2 h3
 simp only [dappend, Ys.ty23.1, hi, h1, h2, h3, if_true, true_and]
theorem ap54 (es fs : List D) (r : List Room) : dappend Tryz.prog #[54, 54] (.list es) (.list fs) r = if lenOk (es.length + fs.length) 24 = true ∧ szOk 2 fs = true ∧ szOk 2 es = true ∧ (r = [.full] ∨ r = [.own 51] ∨ r = [.fresh]) then some (.list (es ++ fs), 51) else none := by
 have : (Tryz.prog.info? 51).map (fun i => (infoOk i, i.size, i.bytes)) = some (true, 2, 24) := by kernel_rfl
 obtain ⟨i, hi, h⟩ := Option.map_eq_some_iff.1 this
 injection h with h1 h2
 injection h2 with h2 h3
 simp only [dappend, ty54.1, hi, h1, h2, h3, if_true, true_and]
theorem AVQ : type_of% (And.intro (And.intro (And.intro (And.intro (@ty63) (And.intro (@dp63) (@fa63_0))) (And.intro (@fp63_0) (And.intro (@fa63_1) (@fp63_1)))) (And.intro (And.intro (@fa63_2) (And.intro (@fp63_2) (@ty54))) (And.intro (@dp54) (And.intro (@ia54) (@len54))))) (And.intro (And.intro (And.intro (@bd63_0) (And.intro (@bd63_3) (@bs81_3))) (And.intro (@bs54_1) (And.intro (@bs54_0) (@zrm63)))) (And.intro (And.intro (@zrm48) (And.intro (@bs23_0) (@eq63))) (And.intro (@eq51) (And.intro (@ap23) (@ap54)))))) := And.intro (And.intro (And.intro (And.intro (@ty63) (And.intro (@dp63) (@fa63_0))) (And.intro (@fp63_0) (And.intro (@fa63_1) (@fp63_1)))) (And.intro (And.intro (@fa63_2) (And.intro (@fp63_2) (@ty54))) (And.intro (@dp54) (And.intro (@ia54) (@len54))))) (And.intro (And.intro (And.intro (@bd63_0) (And.intro (@bd63_3) (@bs81_3))) (And.intro (@bs54_1) (And.intro (@bs54_0) (@zrm63)))) (And.intro (And.intro (@zrm48) (And.intro (@bs23_0) (@eq63))) (And.intro (@eq51) (And.intro (@ap23) (@ap54)))))
end Go.Av.Yq
