/- The evaluator, in one text: over any program; no conditions but those that each law names. -/
import Derived.Test.YtcogfddcdpgpkaaGreatDoorAvuc
import Derived.Test.YtcogfddcdpgpkaaGreatDoorAvua
set_option linter.unusedSimpArgs false
set_option linter.unusedVariables false
set_option linter.unusedSectionVars false
set_option maxRecDepth 100000
namespace Go.Av
open Go.Proofs
variable [Rk] {chk : List D → Bool}
theorem take_at {α : Type} {xs : List α} {i j : Nat} (h : j < i) : (xs.take i)[j]? = xs[j]? := by
 rw [List.getElem?_take, if_pos h]
theorem rpar_L (ahead : List Nd) (n : Nd) (h : parOk ahead n.p = false) : callL Tryz.prog (ext11b chk) 26 [.list (ahead.map Nd.d), n.d] [] = some (.bool false, [.no], []) := by
 obtain ⟨p, k, sp, nm, la, ls, tx⟩ := n
 have lN := lenM ahead Nd.d
 unfold parOk at h
 simp only [Nd.d]
 simp only [] at h
 generalize la.map At.d = LA at *
 generalize ls.map D.str = LS at *
 by_cases h1 : p < -1
 ·generalize ahead.map Nd.d = AH at *
  clear lN h
  exact cW 185 4 Tryz.func26
 ·by_cases h2 : (ahead.length : Int) ≤ p
  ·generalize ahead.map Nd.d = AH at *
   have h2' : (AH.length : Int) ≤ p := by omega
   clear lN h h2
   exact cW 185 4 Tryz.func26
  ·by_cases h0 : 0 ≤ p
   ·obtain ⟨p', k', sp', nm', la', ls', tx', ha, hk⟩ := kind_at (ahead := ahead) h0 (by omega)
    rw [hk] at h
    have h4 : (k' != 1) = true := by simpa [h0, h1, h2] using h
    generalize ahead.map Nd.d = AH at *
    have gp : p < AH.length := by omega
    have h2' : ¬ (AH.length : Int) ≤ p := by omega
    clear lN h2 h hk
    exact cW 185 4 Tryz.func26
   ·simp [h0, h1, h2] at h
set_option maxHeartbeats 64000000 in
theorem relm1_L (AH : List D) (p : Int) (sp nm : List UInt8) (la : List At) (ls : List (List UInt8)) (tx : List UInt8) (hn : BigN ⟨p, 1, sp, nm, la, ls, tx⟩) (h1 : ¬ p < -1) (h2' : ¬ (AH.length : Int) ≤ p) (h0 : 0 ≤ p) (gp : p < AH.length) (p' k' : Int) (sp' nm' : List UInt8) (la' ls' : List D) (tx' : List UInt8) (ha : AH.getD p.toNat .bad = .agg [.int .i64 p', .int .i64 k', .str sp', .str nm', .list la', .list ls', .str tx']) (h4 : (k' != 1) = false) :
  callL Tryz.prog (ext11b chk) 26 [.list AH, .agg [.int .i64 p, .int .i64 1, .str sp, .str nm, .list (la.map At.d), .list (ls.map D.str), .str tx]] [] = some (.bool (elmF ⟨p, 1, sp, nm, la, ls, tx⟩), [.no], []) := by
 obtain ⟨s1, s2, s3, s4, s5, s6⟩ := hn
 have q1 := rright_L (chk := chk) nm s3
 have q2 := rright_L (chk := chk) sp s4
 clear s3 s4 s5
 have lA := lenM la At.d
 have lS := lenM ls D.str
 simp only [elmF]
 have H1 := Hd.mk s1
 have H2 := Hd.mk s2
 have H6 := Hd.mk s6
 clear s1 s2 s6
 cases c1 : (tx == []) with
 | false =>
  generalize la.map At.d = LA at *
  generalize ls.map D.str = LS at *
  generalize goodB nm = e1 at *
  generalize goodB sp = e2 at *
  exact cW 185 4 Tryz.func26
 | true =>
  have htx : tx = [] := by simpa using c1
  subst htx
  clear c1
  cases c2 : (nm == []) with
  | true =>
   generalize la.map At.d = LA at *
   generalize ls.map D.str = LS at *
   generalize goodB nm = e1 at *
   generalize goodB sp = e2 at *
   exact cW 185 4 Tryz.func26
  | false =>
   cases c3 : goodB nm with
   | false =>
    rw [c3] at q1
    generalize la.map At.d = LA at *
    generalize ls.map D.str = LS at *
    exact cW 185 4 Tryz.func26
   | true =>
    cases c4 : goodB sp with
    | false =>
     rw [c3] at q1
     rw [c4] at q2
     generalize la.map At.d = LA at *
     generalize ls.map D.str = LS at *
     exact cW 185 4 Tryz.func26
    | true =>
     rw [c3] at q1
     rw [c4] at q2
     clear c3 c4
     obtain ⟨R, hR⟩ : ∃ R, Hd (R = (attrsG (la.take 0) (la.drop 0) && statesB ls)) := ⟨_, rfl⟩
     rw [show (true && (!false && (true && (true && (attrsB la && statesB ls))))) = R from (show R = (attrsG (la.take 0) (la.drop 0) && statesB ls) from hR).symm]
     have b22 : ((1 : Int) == 2) = false := rfl
     have b33 : ((1 : Int) == 3) = false := rfl
     have b11 : ((1 : Int) != 1) = false := rfl
     refine cK 185 4 Tryz.func26 ?_
     refine G ?_
     clear c2 q1 q2 h1 h2' h0 gp ha h4
     refine loopH (fun st => ∃ i : Nat, i ≤ la.length ∧ st.slot 5 = .int .i64 i ∧ st.slot 0 = .list AH ∧ st.slot 3 = .ptr 3 1 0 ∧ st.box 3 = some ⟨1, [.int .i64 p, .int .i64 1, .str sp, .str nm, .list (la.map At.d), .list (ls.map D.str), .str []], [.no, .no, .no, .no, .no, .no, .no]⟩ ∧ st.slot 4 = .bool false ∧ st.room 4 = [] ∧ Hd (R = (attrsG (la.take i) (la.drop i) && statesB ls))) (fun st => la.length - slotI st 5) ?_ ?_
     ·exact ⟨0, Nat.zero_le _, I, I, I, I, I, I, hR⟩
     ·rintro st K ⟨i, hi, g5, g0, g3, gb, g4, gr, hO⟩ hn hx hr
      have hl : la.length ≤ 140737488355328 := H1
      have hO' : R = (attrsG (la.take i) (la.drop i) && statesB ls) := hO
      clear hO
      by_cases h : i < la.length
      ·have g9 : (i : Int) < la.length := by omega
       have hw := wrapS i (by omega)
       obtain ⟨x, hx1⟩ := some_at h
       obtain ⟨s1, s2, s3⟩ : BigA x := (show ∀ a ∈ la, BigA a from H6) x (List.mem_of_getElem? hx1)
       rw [attrsG_at hx1] at hO'
       have ha := getD_map (f := At.d) hx1
       obtain ⟨a1, a2, a3⟩ := x
       have ha2 : (la.map At.d).getD i .bad = .agg [.str a1, .str a2, .str a3] := ha
       clear ha hx1
       have r1 := rright_L (chk := chk) a1 s1
       have r2 := rright_L (chk := chk) a2 s2
       have r3 := rright_L (chk := chk) a3 s3
       simp only [atOk] at hO'
       generalize hrest : (attrsG (la.take (i + 1)) (la.drop (i + 1)) && statesB ls) = rest at *
       rw [Bool.and_assoc, hrest] at hO'
       have HREST := Hd.mk hrest
       clear hrest s1 s2 s3
       cases f0 : (a2 == []) with
       | true =>
        rw [f0] at hO'
        simp only [Bool.not_true, Bool.false_and] at hO'
        subst hO'
        generalize goodB a1 = e1 at *
        generalize goodB a2 = e2 at *
        generalize goodB a3 = e3 at *
        clear hn hx hl hR HREST
        refine G ?_
        exact hr _ W
       | false =>
        rw [f0] at hO'
        cases e2 : goodB a2 with
        | false =>
         rw [e2] at hO' r2
         simp only [Bool.not_false, Bool.false_and, Bool.and_false] at hO'
         subst hO'
         generalize goodB a1 = e1 at *
         generalize goodB a3 = e3 at *
         clear hn hx hl hR HREST
         refine G ?_
         exact hr _ W
        | true =>
         cases e1 : goodB a1 with
         | false =>
          rw [e1] at hO' r1
          rw [e2] at r2
          simp only [Bool.not_false, Bool.false_and, Bool.and_false] at hO'
          subst hO'
          generalize goodB a3 = e3 at *
          clear hn hx hl hR HREST
          refine G ?_
          exact hr _ W
         | true =>
          cases e3 : goodB a3 with
          | false =>
           rw [e3] at hO' r3
           rw [e2] at r2
           rw [e1] at r1
           simp only [Bool.not_false, Bool.false_and, Bool.and_false] at hO'
           subst hO'
           clear hn hx hl hR HREST
           refine G ?_
           exact hr _ W
          | true =>
           rw [e1] at r1 hO'
           rw [e2] at r2 hO'
           rw [e3] at r3 hO'
           simp only [Bool.not_false, Bool.true_and] at hO'
           have HO : Hd (R = (!(((la.take i).drop 0).any (sameN a1 a2)) && rest)) := hO'
           clear hO' hx e1 e2 e3
           refine G ?_
           clear r1 r2 r3 f0 ha2
           have HI := Hd.mk h
           have G5 := Hd.mk g5
           clear h g9 hl
           refine loopH (fun st' => ∃ j g : Nat, j ≤ i ∧ st'.slot 7 = .int .i64 j ∧ st'.slot 5 = .int .i64 i ∧ st'.slot 0 = .list AH ∧ st'.slot 3 = .ptr 3 1 0 ∧ st'.box 3 = some ⟨1, [.int .i64 p, .int .i64 1, .str sp, .str nm, .list (la.map At.d), .list (ls.map D.str), .str []], [.no, .no, .no, .no, .no, .no, .no]⟩ ∧ st'.slot 6 = .ptr 6 g 0 ∧ st'.box 6 = some ⟨g, [.str a1, .str a2, .str a3], [.no, .no, .no]⟩ ∧ st'.slot 4 = .bool false ∧ st'.room 4 = [] ∧ Hd (R = (!(((la.take i).drop j).any (sameN a1 a2)) && rest))) (fun st' => i - slotI st' 7) ?_ ?_
           ·exact ⟨0, st.ctr 6, Nat.zero_le _, I, I, I, I, I, I, I, I, I, HO⟩
           ·clear g5 g0 g3 gb g4 gr
            rintro st' K' ⟨j, g, hj, j7, j5, j0, j3, jb3, j6, jb6, j4, jr, hO2⟩ hn2 hx2 hr2
            have hi2 : i < la.length := HI
            have hl : la.length ≤ 140737488355328 := H1
            have hO3 : R = (!(((la.take i).drop j).any (sameN a1 a2)) && rest) := hO2
            clear hO2
            by_cases h : j < i
            ·have m9 : (j : Int) < i := by omega
             have m8 : (j : Int) < la.length := by omega
             have hw2 := wrapS j (by omega)
             obtain ⟨y, hy1⟩ := some_at (show j < la.length by omega)
             rw [any_drop (sameN a1 a2) (by rw [take_at h]; exact hy1)] at hO3
             have hb := getD_map (f := At.d) hy1
             obtain ⟨b1, b2, b3⟩ := y
             have hb2 : (la.map At.d).getD j .bad = .agg [.str b1, .str b2, .str b3] := hb
             clear hb hy1 hi2
             simp only [sameN] at hO3
             cases d2 : (b2 == a2) with
             | false =>
              rw [d2] at hO3
              simp only [Bool.and_false, Bool.false_or] at hO3
              have HO4 : Hd (R = (!(((la.take i).drop (j + 1)).any (sameN a1 a2)) && rest)) := hO3
              clear hO3 hr2 hx2 hn hr hl
              repeat' (first|simp only [*, AVB, ↓reduceIte, Nat.reduceEqDiff, Nat.reduceLT, Nat.reduceBEq, Nat.reduceAdd, dIntBin]|refine drW_intro (by kernel_rfl) ?_)
              exact hn2 _ ⟨j + 1, g, h, L, L, L, L, L, L, L, L, L, HO4⟩ Z
             | true =>
              cases d1 : (b1 == a1) with
              | false =>
               rw [d1] at hO3
               simp only [Bool.false_and, Bool.false_or] at hO3
               have HO4 : Hd (R = (!(((la.take i).drop (j + 1)).any (sameN a1 a2)) && rest)) := hO3
               clear hO3 hr2 hx2 hn hr hl
               repeat' (first|simp only [*, AVB, ↓reduceIte, Nat.reduceEqDiff, Nat.reduceLT, Nat.reduceBEq, Nat.reduceAdd, dIntBin]|refine drW_intro (by kernel_rfl) ?_)
               exact hn2 _ ⟨j + 1, g, h, L, L, L, L, L, L, L, L, L, HO4⟩ Z
              | true =>
               rw [d1, d2] at hO3
               simp only [Bool.and_true, Bool.true_or, Bool.not_true, Bool.false_and] at hO3
               subst hO3
               clear hn2 hx2 hR hn hl HREST
               repeat' (first|simp only [*, AVB, ↓reduceIte, Nat.reduceEqDiff, Nat.reduceLT, Nat.reduceBEq, Nat.reduceAdd, dIntBin]|refine drW_intro (by kernel_rfl) ?_)
               refine hr2 _ ?_
               exact hr _ W
            ·have m9 : ¬ (j : Int) < i := by omega
             rw [any_end (sameN a1 a2) (by rw [List.length_take]; omega)] at hO3
             simp only [Bool.not_false, Bool.true_and] at hO3
             have HO4 : Hd (R = (attrsG (la.take (i + 1)) (la.drop (i + 1)) && statesB ls)) := by
              have e : (attrsG (la.take (i + 1)) (la.drop (i + 1)) && statesB ls) = rest := HREST
              rw [e]
              exact hO3
             clear hO3 hr2 hn2 hr hl
             refine G ?_
             refine hx2 _ _ ?_
             refine G ?_
             refine hn _ ⟨i + 1, hi2, L, L, L, L, L, L, HO4⟩ ?_
             ·have g5 : st.slot 5 = .int .i64 i := G5
              simp only [slotI, *, AVB, ↓reduceIte]
              omega
      ·have g9 : ¬ (i : Int) < la.length := by omega
       rw [attrsG_end (by omega), Bool.true_and] at hO'
       have HO : Hd (R = statesG (ls.take 0) (ls.drop 0)) := hO'
       clear hO' hn hr hl hR
       refine G ?_
       refine hx _ _ ?_
       refine G ?_
       have HX := Hd.mk hx
       clear hx g9 h hi
       refine loopH (fun st' => ∃ j : Nat, j ≤ ls.length ∧ st'.slot 8 = .int .i64 j ∧ st'.slot 0 = .list AH ∧ st'.slot 3 = .ptr 3 1 0 ∧ st'.box 3 = some ⟨1, [.int .i64 p, .int .i64 1, .str sp, .str nm, .list (la.map At.d), .list (ls.map D.str), .str []], [.no, .no, .no, .no, .no, .no, .no]⟩ ∧ st'.slot 4 = .bool false ∧ st'.room 4 = [] ∧ Hd (R = statesG (ls.take j) (ls.drop j))) (fun st' => ls.length - slotI st' 8) ?_ ?_
       ·exact ⟨0, Nat.zero_le _, I, I, I, I, I, I, HO⟩
       ·clear g5 g0 g3 gb g4 gr
        rintro st' K' ⟨j, hj, g8, g0, g3, gb, g4, gr, hO2⟩ hn hx hr
        have hl2 : ls.length ≤ 140737488355328 := H2
        have hO3 : R = statesG (ls.take j) (ls.drop j) := hO2
        clear hO2
        by_cases h : j < ls.length
        ·have g9 : (j : Int) < ls.length := by omega
         have hw := wrapS j (by omega)
         obtain ⟨x, hx1⟩ := some_at h
         rw [statesG_at hx1] at hO3
         have ha := getD_map (f := D.str) hx1
         have u1 := rstate_L (chk := chk) x
         have u2 : callL Tryz.prog (ext11b chk) 42 [.list ((ls.map D.str).take j), .str x] [] = some (.bool ((ls.take j).contains x), [.no], []) := by
          rw [← List.map_take]
          exact has_L (ls.take j) x (by rw [List.length_take]; omega)
         have sz := szS ls
         have gle : (j : Int) ≤ ls.length := by omega
         generalize (ls.take j).contains x = e5 at *
         generalize stS.contains x = e1 at *
         cases e1 with
         | false =>
          simp only [Bool.false_and] at hO3
          subst hO3
          clear hn hx hl2 hx1 sz
          repeat' (first|simp only [*, AVB, ↓reduceIte, Nat.reduceEqDiff, Nat.reduceLT, Nat.reduceBEq, dIntBin]|refine drW_intro (by kernel_rfl) ?_)
          exact hr _ W
         | true =>
          cases e5 with
          | true =>
           simp only [Bool.not_true, Bool.false_and, Bool.true_and] at hO3
           subst hO3
           clear hn hx hl2 hx1
           repeat' (first|simp only [*, AVB, ↓reduceIte, Nat.reduceEqDiff, Nat.reduceLT, Nat.reduceBEq, dIntBin]|refine drW_intro (by kernel_rfl) ?_)
           exact hr _ W
          | false =>
           simp only [Bool.not_false, Bool.true_and] at hO3
           have HO3 := Hd.mk hO3
           clear hO3 hx hr hl2 hx1
           repeat' (first|simp only [*, AVB, ↓reduceIte, Nat.reduceEqDiff, Nat.reduceLT, Nat.reduceBEq, dIntBin]|refine drW_intro (by kernel_rfl) ?_)
           exact hn _ ⟨j + 1, h, L, L, L, L, L, L, HO3⟩ Z
        ·have g9 : ¬ (j : Int) < ls.length := by omega
         rw [statesG_end (by omega)] at hO3
         subst hO3
         clear hn hr hl2
         refine G ?_
         exact hx _ _ W
set_option maxHeartbeats 64000000 in
theorem relm2_L (AH : List D) (p : Int) (sp nm : List UInt8) (la : List At) (ls : List (List UInt8)) (tx : List UInt8) (hn : BigN ⟨p, 1, sp, nm, la, ls, tx⟩) (h1 : ¬ p < -1) (h2' : ¬ (AH.length : Int) ≤ p) (h0 : ¬ 0 ≤ p) :
  callL Tryz.prog (ext11b chk) 26 [.list AH, .agg [.int .i64 p, .int .i64 1, .str sp, .str nm, .list (la.map At.d), .list (ls.map D.str), .str tx]] [] = some (.bool (elmF ⟨p, 1, sp, nm, la, ls, tx⟩), [.no], []) := by
 obtain ⟨s1, s2, s3, s4, s5, s6⟩ := hn
 have q1 := rright_L (chk := chk) nm s3
 have q2 := rright_L (chk := chk) sp s4
 clear s3 s4 s5
 have lA := lenM la At.d
 have lS := lenM ls D.str
 simp only [elmF]
 have H1 := Hd.mk s1
 have H2 := Hd.mk s2
 have H6 := Hd.mk s6
 clear s1 s2 s6
 cases c1 : (tx == []) with
 | false =>
  generalize la.map At.d = LA at *
  generalize ls.map D.str = LS at *
  generalize goodB nm = e1 at *
  generalize goodB sp = e2 at *
  exact cW 185 4 Tryz.func26
 | true =>
  have htx : tx = [] := by simpa using c1
  subst htx
  clear c1
  cases c2 : (nm == []) with
  | true =>
   generalize la.map At.d = LA at *
   generalize ls.map D.str = LS at *
   generalize goodB nm = e1 at *
   generalize goodB sp = e2 at *
   exact cW 185 4 Tryz.func26
  | false =>
   cases c3 : goodB nm with
   | false =>
    rw [c3] at q1
    generalize la.map At.d = LA at *
    generalize ls.map D.str = LS at *
    exact cW 185 4 Tryz.func26
   | true =>
    cases c4 : goodB sp with
    | false =>
     rw [c3] at q1
     rw [c4] at q2
     generalize la.map At.d = LA at *
     generalize ls.map D.str = LS at *
     exact cW 185 4 Tryz.func26
    | true =>
     rw [c3] at q1
     rw [c4] at q2
     clear c3 c4
     obtain ⟨R, hR⟩ : ∃ R, Hd (R = (attrsG (la.take 0) (la.drop 0) && statesB ls)) := ⟨_, rfl⟩
     rw [show (true && (!false && (true && (true && (attrsB la && statesB ls))))) = R from (show R = (attrsG (la.take 0) (la.drop 0) && statesB ls) from hR).symm]
     have b22 : ((1 : Int) == 2) = false := rfl
     have b33 : ((1 : Int) == 3) = false := rfl
     have b11 : ((1 : Int) != 1) = false := rfl
     refine cK 185 4 Tryz.func26 ?_
     refine G ?_
     clear c2 q1 q2 h1 h2' h0
     refine loopH (fun st => ∃ i : Nat, i ≤ la.length ∧ st.slot 5 = .int .i64 i ∧ st.slot 0 = .list AH ∧ st.slot 3 = .ptr 3 1 0 ∧ st.box 3 = some ⟨1, [.int .i64 p, .int .i64 1, .str sp, .str nm, .list (la.map At.d), .list (ls.map D.str), .str []], [.no, .no, .no, .no, .no, .no, .no]⟩ ∧ st.slot 4 = .bool false ∧ st.room 4 = [] ∧ Hd (R = (attrsG (la.take i) (la.drop i) && statesB ls))) (fun st => la.length - slotI st 5) ?_ ?_
     ·exact ⟨0, Nat.zero_le _, I, I, I, I, I, I, hR⟩
     ·rintro st K ⟨i, hi, g5, g0, g3, gb, g4, gr, hO⟩ hn hx hr
      have hl : la.length ≤ 140737488355328 := H1
      have hO' : R = (attrsG (la.take i) (la.drop i) && statesB ls) := hO
      clear hO
      by_cases h : i < la.length
      ·have g9 : (i : Int) < la.length := by omega
       have hw := wrapS i (by omega)
       obtain ⟨x, hx1⟩ := some_at h
       obtain ⟨s1, s2, s3⟩ : BigA x := (show ∀ a ∈ la, BigA a from H6) x (List.mem_of_getElem? hx1)
       rw [attrsG_at hx1] at hO'
       have ha := getD_map (f := At.d) hx1
       obtain ⟨a1, a2, a3⟩ := x
       have ha2 : (la.map At.d).getD i .bad = .agg [.str a1, .str a2, .str a3] := ha
       clear ha hx1
       have r1 := rright_L (chk := chk) a1 s1
       have r2 := rright_L (chk := chk) a2 s2
       have r3 := rright_L (chk := chk) a3 s3
       simp only [atOk] at hO'
       generalize hrest : (attrsG (la.take (i + 1)) (la.drop (i + 1)) && statesB ls) = rest at *
       rw [Bool.and_assoc, hrest] at hO'
       have HREST := Hd.mk hrest
       clear hrest s1 s2 s3
       cases f0 : (a2 == []) with
       | true =>
        rw [f0] at hO'
        simp only [Bool.not_true, Bool.false_and] at hO'
        subst hO'
        generalize goodB a1 = e1 at *
        generalize goodB a2 = e2 at *
        generalize goodB a3 = e3 at *
        clear hn hx hl hR HREST
        refine G ?_
        exact hr _ W
       | false =>
        rw [f0] at hO'
        cases e2 : goodB a2 with
        | false =>
         rw [e2] at hO' r2
         simp only [Bool.not_false, Bool.false_and, Bool.and_false] at hO'
         subst hO'
         generalize goodB a1 = e1 at *
         generalize goodB a3 = e3 at *
         clear hn hx hl hR HREST
         refine G ?_
         exact hr _ W
        | true =>
         cases e1 : goodB a1 with
         | false =>
          rw [e1] at hO' r1
          rw [e2] at r2
          simp only [Bool.not_false, Bool.false_and, Bool.and_false] at hO'
          subst hO'
          generalize goodB a3 = e3 at *
          clear hn hx hl hR HREST
          refine G ?_
          exact hr _ W
         | true =>
          cases e3 : goodB a3 with
          | false =>
           rw [e3] at hO' r3
           rw [e2] at r2
           rw [e1] at r1
           simp only [Bool.not_false, Bool.false_and, Bool.and_false] at hO'
           subst hO'
           clear hn hx hl hR HREST
           refine G ?_
           exact hr _ W
          | true =>
           rw [e1] at r1 hO'
           rw [e2] at r2 hO'
           rw [e3] at r3 hO'
           simp only [Bool.not_false, Bool.true_and] at hO'
           have HO : Hd (R = (!(((la.take i).drop 0).any (sameN a1 a2)) && rest)) := hO'
           clear hO' hx e1 e2 e3
           refine G ?_
           clear r1 r2 r3 f0 ha2
           have HI := Hd.mk h
           have G5 := Hd.mk g5
           clear h g9 hl
           refine loopH (fun st' => ∃ j g : Nat, j ≤ i ∧ st'.slot 7 = .int .i64 j ∧ st'.slot 5 = .int .i64 i ∧ st'.slot 0 = .list AH ∧ st'.slot 3 = .ptr 3 1 0 ∧ st'.box 3 = some ⟨1, [.int .i64 p, .int .i64 1, .str sp, .str nm, .list (la.map At.d), .list (ls.map D.str), .str []], [.no, .no, .no, .no, .no, .no, .no]⟩ ∧ st'.slot 6 = .ptr 6 g 0 ∧ st'.box 6 = some ⟨g, [.str a1, .str a2, .str a3], [.no, .no, .no]⟩ ∧ st'.slot 4 = .bool false ∧ st'.room 4 = [] ∧ Hd (R = (!(((la.take i).drop j).any (sameN a1 a2)) && rest))) (fun st' => i - slotI st' 7) ?_ ?_
           ·exact ⟨0, st.ctr 6, Nat.zero_le _, I, I, I, I, I, I, I, I, I, HO⟩
           ·clear g5 g0 g3 gb g4 gr
            rintro st' K' ⟨j, g, hj, j7, j5, j0, j3, jb3, j6, jb6, j4, jr, hO2⟩ hn2 hx2 hr2
            have hi2 : i < la.length := HI
            have hl : la.length ≤ 140737488355328 := H1
            have hO3 : R = (!(((la.take i).drop j).any (sameN a1 a2)) && rest) := hO2
            clear hO2
            by_cases h : j < i
            ·have m9 : (j : Int) < i := by omega
             have m8 : (j : Int) < la.length := by omega
             have hw2 := wrapS j (by omega)
             obtain ⟨y, hy1⟩ := some_at (show j < la.length by omega)
             rw [any_drop (sameN a1 a2) (by rw [take_at h]; exact hy1)] at hO3
             have hb := getD_map (f := At.d) hy1
             obtain ⟨b1, b2, b3⟩ := y
             have hb2 : (la.map At.d).getD j .bad = .agg [.str b1, .str b2, .str b3] := hb
             clear hb hy1 hi2
             simp only [sameN] at hO3
             cases d2 : (b2 == a2) with
             | false =>
              rw [d2] at hO3
              simp only [Bool.and_false, Bool.false_or] at hO3
              have HO4 : Hd (R = (!(((la.take i).drop (j + 1)).any (sameN a1 a2)) && rest)) := hO3
              clear hO3 hr2 hx2 hn hr hl
              repeat' (first|simp only [*, AVB, ↓reduceIte, Nat.reduceEqDiff, Nat.reduceLT, Nat.reduceBEq, Nat.reduceAdd, dIntBin]|refine drW_intro (by kernel_rfl) ?_)
              exact hn2 _ ⟨j + 1, g, h, L, L, L, L, L, L, L, L, L, HO4⟩ Z
             | true =>
              cases d1 : (b1 == a1) with
              | false =>
               rw [d1] at hO3
               simp only [Bool.false_and, Bool.false_or] at hO3
               have HO4 : Hd (R = (!(((la.take i).drop (j + 1)).any (sameN a1 a2)) && rest)) := hO3
               clear hO3 hr2 hx2 hn hr hl
               repeat' (first|simp only [*, AVB, ↓reduceIte, Nat.reduceEqDiff, Nat.reduceLT, Nat.reduceBEq, Nat.reduceAdd, dIntBin]|refine drW_intro (by kernel_rfl) ?_)
               exact hn2 _ ⟨j + 1, g, h, L, L, L, L, L, L, L, L, L, HO4⟩ Z
              | true =>
               rw [d1, d2] at hO3
               simp only [Bool.and_true, Bool.true_or, Bool.not_true, Bool.false_and] at hO3
               subst hO3
               clear hn2 hx2 hR hn hl HREST
               repeat' (first|simp only [*, AVB, ↓reduceIte, Nat.reduceEqDiff, Nat.reduceLT, Nat.reduceBEq, Nat.reduceAdd, dIntBin]|refine drW_intro (by kernel_rfl) ?_)
               refine hr2 _ ?_
               exact hr _ W
            ·have m9 : ¬ (j : Int) < i := by omega
             rw [any_end (sameN a1 a2) (by rw [List.length_take]; omega)] at hO3
             simp only [Bool.not_false, Bool.true_and] at hO3
             have HO4 : Hd (R = (attrsG (la.take (i + 1)) (la.drop (i + 1)) && statesB ls)) := by
              have e : (attrsG (la.take (i + 1)) (la.drop (i + 1)) && statesB ls) = rest := HREST
              rw [e]
              exact hO3
             clear hO3 hr2 hn2 hr hl
             refine G ?_
             refine hx2 _ _ ?_
             refine G ?_
             refine hn _ ⟨i + 1, hi2, L, L, L, L, L, L, HO4⟩ ?_
             ·have g5 : st.slot 5 = .int .i64 i := G5
              simp only [slotI, *, AVB, ↓reduceIte]
              omega
      ·have g9 : ¬ (i : Int) < la.length := by omega
       rw [attrsG_end (by omega), Bool.true_and] at hO'
       have HO : Hd (R = statesG (ls.take 0) (ls.drop 0)) := hO'
       clear hO' hn hr hl hR
       refine G ?_
       refine hx _ _ ?_
       refine G ?_
       have HX := Hd.mk hx
       clear hx g9 h hi
       refine loopH (fun st' => ∃ j : Nat, j ≤ ls.length ∧ st'.slot 8 = .int .i64 j ∧ st'.slot 0 = .list AH ∧ st'.slot 3 = .ptr 3 1 0 ∧ st'.box 3 = some ⟨1, [.int .i64 p, .int .i64 1, .str sp, .str nm, .list (la.map At.d), .list (ls.map D.str), .str []], [.no, .no, .no, .no, .no, .no, .no]⟩ ∧ st'.slot 4 = .bool false ∧ st'.room 4 = [] ∧ Hd (R = statesG (ls.take j) (ls.drop j))) (fun st' => ls.length - slotI st' 8) ?_ ?_
       ·exact ⟨0, Nat.zero_le _, I, I, I, I, I, I, HO⟩
       ·clear g5 g0 g3 gb g4 gr
        rintro st' K' ⟨j, hj, g8, g0, g3, gb, g4, gr, hO2⟩ hn hx hr
        have hl2 : ls.length ≤ 140737488355328 := H2
        have hO3 : R = statesG (ls.take j) (ls.drop j) := hO2
        clear hO2
        by_cases h : j < ls.length
        ·have g9 : (j : Int) < ls.length := by omega
         have hw := wrapS j (by omega)
         obtain ⟨x, hx1⟩ := some_at h
         rw [statesG_at hx1] at hO3
         have ha := getD_map (f := D.str) hx1
         have u1 := rstate_L (chk := chk) x
         have u2 : callL Tryz.prog (ext11b chk) 42 [.list ((ls.map D.str).take j), .str x] [] = some (.bool ((ls.take j).contains x), [.no], []) := by
          rw [← List.map_take]
          exact has_L (ls.take j) x (by rw [List.length_take]; omega)
         have sz := szS ls
         have gle : (j : Int) ≤ ls.length := by omega
         generalize (ls.take j).contains x = e5 at *
         generalize stS.contains x = e1 at *
         cases e1 with
         | false =>
          simp only [Bool.false_and] at hO3
          subst hO3
          clear hn hx hl2 hx1 sz
          repeat' (first|simp only [*, AVB, ↓reduceIte, Nat.reduceEqDiff, Nat.reduceLT, Nat.reduceBEq, dIntBin]|refine drW_intro (by kernel_rfl) ?_)
          exact hr _ W
         | true =>
          cases e5 with
          | true =>
           simp only [Bool.not_true, Bool.false_and, Bool.true_and] at hO3
           subst hO3
           clear hn hx hl2 hx1
           repeat' (first|simp only [*, AVB, ↓reduceIte, Nat.reduceEqDiff, Nat.reduceLT, Nat.reduceBEq, dIntBin]|refine drW_intro (by kernel_rfl) ?_)
           exact hr _ W
          | false =>
           simp only [Bool.not_false, Bool.true_and] at hO3
           have HO3 := Hd.mk hO3
           clear hO3 hx hr hl2 hx1
           repeat' (first|simp only [*, AVB, ↓reduceIte, Nat.reduceEqDiff, Nat.reduceLT, Nat.reduceBEq, dIntBin]|refine drW_intro (by kernel_rfl) ?_)
           exact hn _ ⟨j + 1, h, L, L, L, L, L, L, HO3⟩ Z
        ·have g9 : ¬ (j : Int) < ls.length := by omega
         rw [statesG_end (by omega)] at hO3
         subst hO3
         clear hn hr hl2
         refine G ?_
         exact hx _ _ W
set_option maxHeartbeats 16000000 in
theorem rbody_L (ahead : List Nd) (n : Nd) (hn : BigN n) (h : parOk ahead n.p = true) : callL Tryz.prog (ext11b chk) 26 [.list (ahead.map Nd.d), n.d] [] = some (.bool (bodyF n), [.no], []) := by
 obtain ⟨p, k, sp, nm, la, ls, tx⟩ := n
 have lN := lenM ahead Nd.d
 unfold parOk at h
 simp only [Bool.and_eq_true, Bool.not_eq_eq_eq_not, Bool.not_true, decide_eq_false_iff_not] at h
 obtain ⟨h1, h2, h3⟩ := h
 simp only [bodyF, txtF, Nd.d]
 by_cases h0 : 0 ≤ p
 ·obtain ⟨p', k', sp', nm', la', ls', tx', ha, hk⟩ := kind_at (ahead := ahead) h0 (by omega)
  rw [hk] at h3
  have h5 : ¬ p < 0 := by omega
  have h4 : (k' != 1) = false := by simpa [h0] using h3
  clear h3 hk
  generalize ahead.map Nd.d = AH at *
  have gp : p < AH.length := by omega
  have h2' : ¬ (AH.length : Int) ≤ p := by omega
  clear lN h2
  by_cases k1 : k = 1
  ·subst k1
   rw [if_pos rfl]
   exact relm1_L AH p sp nm la ls tx hn h1 h2' h0 gp p' k' sp' nm' la' ls' tx' ha h4
  ·obtain ⟨s1, s2, s3, s4, s5, s6⟩ := hn
   have q3 := rright_L (chk := chk) tx s5
   have lA := lenM la At.d
   have lS := lenM ls D.str
   clear s1 s2 s3 s4 s5 s6
   generalize goodB tx = e3 at *
   generalize la.map At.d = LA at *
   generalize ls.map D.str = LS at *
   by_cases k2 : k = 2
   ·subst k2
    cases c1 : (sp == []) with
    | false =>
     exact cW 185 4 Tryz.func26
    | true =>
     cases c2 : (nm == []) with
     | false =>
      exact cW 185 4 Tryz.func26
     | true =>
      cases c3 : ((la.length : Int) == 0) with
      | false =>
       exact cW 185 4 Tryz.func26
      | true =>
       cases c4 : ((ls.length : Int) == 0) with
       | false =>
        exact cW 185 4 Tryz.func26
       | true =>
        cases e3 with
        | false =>
         exact cW 185 4 Tryz.func26
        | true =>
         exact cW 185 4 Tryz.func26
   ·by_cases k3 : k = 3
    ·subst k3
     cases c1 : (sp == []) with
     | false =>
      exact cW 185 4 Tryz.func26
     | true =>
      cases c2 : (nm == []) with
      | false =>
       exact cW 185 4 Tryz.func26
      | true =>
       cases c3 : ((la.length : Int) == 0) with
       | false =>
        exact cW 185 4 Tryz.func26
       | true =>
        cases c4 : ((ls.length : Int) == 0) with
        | false =>
         exact cW 185 4 Tryz.func26
        | true =>
         cases e3 with
         | false =>
          exact cW 185 4 Tryz.func26
         | true =>
          exact cW 185 4 Tryz.func26
    ·have b1 : (k != 1) = true := by simpa using k1
     have b2 : (k == 2) = false := by simpa using k2
     have b3 : (k == 3) = false := by simpa using k3
     exact cW 185 4 Tryz.func26
 ·have h5 : p < 0 := by omega
  clear h3
  generalize ahead.map Nd.d = AH at *
  have h2' : ¬ (AH.length : Int) ≤ p := by omega
  clear lN h2
  by_cases k1 : k = 1
  ·subst k1
   rw [if_pos rfl]
   exact relm2_L AH p sp nm la ls tx hn h1 h2' h0
  ·obtain ⟨s1, s2, s3, s4, s5, s6⟩ := hn
   have q3 := rright_L (chk := chk) tx s5
   have lA := lenM la At.d
   have lS := lenM ls D.str
   clear s1 s2 s3 s4 s5 s6
   generalize goodB tx = e3 at *
   generalize la.map At.d = LA at *
   generalize ls.map D.str = LS at *
   by_cases k2 : k = 2
   ·subst k2
    cases c1 : (sp == []) with
    | false =>
     exact cW 185 4 Tryz.func26
    | true =>
     cases c2 : (nm == []) with
     | false =>
      exact cW 185 4 Tryz.func26
     | true =>
      cases c3 : ((la.length : Int) == 0) with
      | false =>
       exact cW 185 4 Tryz.func26
      | true =>
       cases c4 : ((ls.length : Int) == 0) with
       | false =>
        exact cW 185 4 Tryz.func26
       | true =>
        cases e3 with
        | false =>
         exact cW 185 4 Tryz.func26
        | true =>
         exact cW 185 4 Tryz.func26
   ·by_cases k3 : k = 3
    ·subst k3
     cases c1 : (sp == []) with
     | false =>
      exact cW 185 4 Tryz.func26
     | true =>
      cases c2 : (nm == []) with
      | false =>
       exact cW 185 4 Tryz.func26
      | true =>
       cases c3 : ((la.length : Int) == 0) with
       | false =>
        exact cW 185 4 Tryz.func26
       | true =>
        cases c4 : ((ls.length : Int) == 0) with
        | false =>
         exact cW 185 4 Tryz.func26
        | true =>
         cases e3 with
         | false =>
          exact cW 185 4 Tryz.func26
         | true =>
          exact cW 185 4 Tryz.func26
    ·have b1 : (k != 1) = true := by simpa using k1
     have b2 : (k == 2) = false := by simpa using k2
     have b3 : (k == 3) = false := by simpa using k3
     exact cW 185 4 Tryz.func26
theorem rnode_L2 (ahead : List Nd) (n : Nd) (hn : BigN n) : callL Tryz.prog (ext11b chk) 26 [.list (ahead.map Nd.d), n.d] [] = some (.bool (nodeF ahead n), [.no], []) := by
 unfold nodeF
 cases h : parOk ahead n.p with
 | true => rw [Bool.true_and]; exact rbody_L ahead n hn h
 | false => rw [Bool.false_and]; exact rpar_L ahead n h
end Go.Av
namespace Go.Av
open Go.Proofs
variable [Rk] {chk : List D → Bool}
def rootB (n : Nd) : Bool := n.k == 1 && decide (n.p < 0)
def chkG : List Nd → List Nd → Int → Int × Int
 | a, [], roots => if roots = 1 then (0, 0) else (15, a.length)
 | a, n :: r, roots => if nodeF a n = true then chkG (a ++ [n]) r (if rootB n = true then roots + 1 else roots) else (10, a.length)
def chkF (ns : List Nd) : Int × Int := chkG [] ns 0
theorem chkG_at {xs : List Nd} {i : Nat} {x : Nd} (roots : Int) (hx : xs[i]? = some x) : chkG (xs.take i) (xs.drop i) roots = if nodeF (xs.take i) x = true then chkG (xs.take (i + 1)) (xs.drop (i + 1)) (if rootB x = true then roots + 1 else roots) else (10, (i : Int)) := by
 have h1 : i < xs.length := (List.getElem?_eq_some_iff.1 hx).1
 have e1 : xs[i] = x := (List.getElem?_eq_some_iff.1 hx).2
 rw [List.drop_eq_getElem_cons h1, e1, chkG, List.take_succ_eq_append_getElem h1, e1, List.length_take, Nat.min_eq_left (by omega)]
theorem chkG_end {xs : List Nd} {i : Nat} (roots : Int) (h : xs.length = i) : chkG (xs.take i) (xs.drop i) roots = if roots = 1 then (0, 0) else (15, (i : Int)) := by
 subst h
 rw [List.drop_length, List.take_length, chkG]
def BigD (ns : List Nd) : Prop := ns.length ≤ 140737488355328 ∧ ∀ n ∈ ns, BigN n
def SmallD (ns : List Nd) : Prop := ns.length ≤ 10000 ∧ ∀ n ∈ ns, SmallN n
theorem SmallD.small {ns : List Nd} (h : SmallD ns) : Small ns := ⟨h.1, fun n hn => ⟨(h.2 n hn).1, (h.2 n hn).2.1⟩⟩
theorem great_smallD {ns : List Nd} {m : Nat} (h : greatF ns m = false) (hm : m ≤ 10000) : SmallD ns := by
 unfold greatF at h
 simp only [Bool.or_eq_false_iff, decide_eq_false_iff_not, List.any_eq_false] at h
 refine ⟨by omega, fun n hn => ?_⟩
 have h1 := h.2 n hn
 unfold ndG ndG0 at h1
 simp only [Bool.or_eq_true, decide_eq_true_eq, not_or, List.any_eq_true, not_exists, not_and] at h1
 refine ⟨by omega, by omega, by omega, by omega, by omega, fun a ha => ?_⟩
 have h2 := h1.2 a ha
 unfold atG at h2
 simp only [Bool.or_eq_true, decide_eq_true_eq, not_or] at h2
 exact ⟨by omega, by omega, by omega⟩
set_option maxHeartbeats 16000000 in
theorem rcheck_L (ns : List Nd) (hS : BigD ns) : callL Tryz.prog (ext11b chk) 9 [.list (ns.map Nd.d)] [] = some (.tuple [.int .i64 (chkF ns).1, .int .i64 (chkF ns).2], [.no, .no], []) := by
 have lN := lenM ns Nd.d
 have HL := Hd.mk hS.1
 have HS := Hd.mk hS
 clear hS
 obtain ⟨R1, R2, hR⟩ : ∃ R1 R2, Hd ((R1, R2) = chkG (ns.take 0) (ns.drop 0) 0) := ⟨_, _, rfl⟩
 have e : chkF ns = (R1, R2) := (show (R1, R2) = chkG (ns.take 0) (ns.drop 0) 0 from hR).symm
 rw [e]
 clear e
 refine callK (m := 42) (res := [2, 3]) (rs := [.tmp 2, .tmp 3]) rfl Tryz.func9 rfl rfl rfl rfl rfl ?_
 refine G ?_
 refine loopH (fun st => ∃ (i : Nat) (roots : Int), i ≤ ns.length ∧ (0 ≤ roots ∧ roots ≤ i) ∧ st.slot 5 = .int .i64 i ∧ st.room 5 = [] ∧ st.slot 4 = .int .i64 roots ∧ st.slot 0 = .list (ns.map Nd.d) ∧ st.slot 2 = .int .i64 0 ∧ st.room 2 = [] ∧ st.slot 3 = .int .i64 0 ∧ st.room 3 = [] ∧ Hd ((R1, R2) = chkG (ns.take i) (ns.drop i) roots)) (fun st => ns.length - slotI st 5) ?_ ?_
 ·exact ⟨0, 0, Nat.zero_le _, ⟨by decide, by decide⟩, I, I, I, I, I, I, I, I, hR⟩
 ·rintro st K ⟨i, roots, hi, hro, g5, r5, g4, g0, g2, r2, g3, r3, hO⟩ hn hx hr
  have hl : ns.length ≤ 140737488355328 := HL
  have hO' : (R1, R2) = chkG (ns.take i) (ns.drop i) roots := hO
  clear hO
  by_cases h : i < ns.length
  ·have g9 : (i : Int) < ns.length := by omega
   have hw := wrapS i (by omega)
   have hwr : IntKind.i64.wrap (roots + 1) = roots + 1 := wrap64 _ (by omega) (by omega)
   obtain ⟨x, hx1⟩ := some_at h
   have hS : BigD ns := HS
   have hsx := hS.2 x (List.mem_of_getElem? hx1)
   rw [chkG_at roots hx1] at hO'
   have ha := getD_map (f := Nd.d) hx1
   have q1 : callL Tryz.prog (ext11b chk) 26 [.list ((ns.map Nd.d).take i), x.d] [] = some (.bool (nodeF (ns.take i) x), [.no], []) := by
    rw [← List.map_take]
    exact rnode_L2 (ns.take i) x hsx
   have sz := szN ns
   have gle : (i : Int) ≤ ns.length := by omega
   rw [ndat] at ha q1
   have hrt : rootB x = (x.k == 1 && decide (x.p < 0)) := rfl
   rw [hrt] at hO'
   generalize x.at_.map At.d = LA at *
   generalize x.st.map D.str = LS at *
   generalize nodeF (ns.take i) x = b at *
   generalize x.p = p at *
   generalize x.k = k at *
   generalize x.sp = sp at *
   generalize x.nm = nm at *
   generalize x.tx = tx at *
   clear hS hsx hrt hx1
   cases b with
   | false =>
    rw [if_neg (by decide)] at hO'
    simp only [Prod.mk.injEq] at hO'
    obtain ⟨o1, o2⟩ := hO'
    subst o1 o2
    clear hn hx hl hR
    repeat' (first|simp only [*, AVB, ↓reduceIte, Nat.reduceEqDiff, Nat.reduceLT, reduceCtorEq, Nat.reduceBEq, Nat.reduceAdd, dIntBin]|refine drW_intro (by kernel_rfl) ?_)
    exact hr _ W
   | true =>
    rw [if_pos rfl] at hO'
    by_cases c1 : p < 0
    ·cases c2 : (k == 1) with
     | true =>
      rw [c2, decide_eq_true c1, Bool.true_and, if_pos rfl] at hO'
      have HO := Hd.mk hO'
      have HR := Hd.mk hro
      clear hO' hx hr hl hro
      repeat' (first|simp only [*, AVB, ↓reduceIte, Nat.reduceEqDiff, Nat.reduceLT, reduceCtorEq, Nat.reduceBEq, Nat.reduceAdd, dIntBin]|refine drW_intro (by kernel_rfl) ?_)
      have hro : 0 ≤ roots ∧ roots ≤ i := HR
      exact hn _ ⟨i + 1, roots + 1, h, ⟨by omega, by omega⟩, L, L, L, L, L, L, L, L, HO⟩ Z
     | false =>
      rw [c2, Bool.false_and, if_neg (by decide)] at hO'
      have HO := Hd.mk hO'
      have HR := Hd.mk hro
      clear hO' hx hr hl hro
      repeat' (first|simp only [*, AVB, ↓reduceIte, Nat.reduceEqDiff, Nat.reduceLT, reduceCtorEq, Nat.reduceBEq, Nat.reduceAdd, dIntBin]|refine drW_intro (by kernel_rfl) ?_)
      have hro : 0 ≤ roots ∧ roots ≤ i := HR
      exact hn _ ⟨i + 1, roots, h, ⟨by omega, by omega⟩, L, L, L, L, L, L, L, L, HO⟩ Z
    ·rw [decide_eq_false c1, Bool.and_false, if_neg (by decide)] at hO'
     have HO := Hd.mk hO'
     have HR := Hd.mk hro
     clear hO' hx hr hl hro
     repeat' (first|simp only [*, AVB, ↓reduceIte, Nat.reduceEqDiff, Nat.reduceLT, reduceCtorEq, Nat.reduceBEq, Nat.reduceAdd, dIntBin]|refine drW_intro (by kernel_rfl) ?_)
     have hro : 0 ≤ roots ∧ roots ≤ i := HR
     exact hn _ ⟨i + 1, roots, h, ⟨by omega, by omega⟩, L, L, L, L, L, L, L, L, HO⟩ Z
  ·have g9 : ¬ (i : Int) < ns.length := by omega
   have hie : i = ns.length := by omega
   rw [chkG_end roots hie.symm] at hO'
   by_cases c1 : roots = 1
   ·rw [if_pos c1] at hO'
    simp only [Prod.mk.injEq] at hO'
    obtain ⟨o1, o2⟩ := hO'
    subst o1 o2 c1
    have b1 : ((1 : Int) != 1) = false := rfl
    clear hn hr hl hR hie
    refine G ?_
    exact hx _ _ W
   ·rw [if_neg c1] at hO'
    simp only [Prod.mk.injEq] at hO'
    obtain ⟨o1, o2⟩ := hO'
    have b1 : (roots != 1) = true := by simpa using c1
    subst hie
    subst o1 o2
    clear hn hr hl hR c1
    refine G ?_
    exact hx _ _ W
def errD (r : Int × Int) : D := if r.1 = 0 then .con .nilIface else faultD r.1 r.2
theorem fail_L (k a : Int) : callL Tryz.prog (ext11b chk) 57 [.int .i64 k, .int .i64 a] [] = some (faultD k a, [], []) := callL_ext (ext_in rfl)
set_option maxHeartbeats 16000000 in
theorem check_L (ns : List Nd) (hS : SmallD ns) : callL Tryz.prog (ext11b chk) 31 [.list (ns.map Nd.d)] [] = some (errD (chkF ns), [.no], []) := by
 have lN := lenM ns Nd.d
 have HL := Hd.mk hS.1
 have HS := Hd.mk hS
 clear hS
 obtain ⟨R, hR⟩ : ∃ R, Hd (R = errD (chkG (ns.take 0) (ns.drop 0) 0)) := ⟨_, rfl⟩
 rw [show errD (chkF ns) = R from (show R = errD (chkG (ns.take 0) (ns.drop 0) 0) from hR).symm]
 have hpb : pureB R = true := by
  have e : R = errD (chkG (ns.take 0) (ns.drop 0) 0) := hR
  rw [e]
  unfold errD
  split <;> rfl
 refine cK 37 2 Tryz.func31 ?_
 refine G ?_
 refine loopH (fun st => ∃ (i : Nat) (roots : Int), i ≤ ns.length ∧ (0 ≤ roots ∧ roots ≤ i) ∧ st.slot 8 = .int .i64 i ∧ st.slot 3 = .int .i64 roots ∧ st.slot 0 = .list (ns.map Nd.d) ∧ st.slot 6 = .list (ns.map Nd.d) ∧ st.slot 7 = .int .i64 ns.length ∧ st.slot 2 = .con .nilIface ∧ st.room 2 = [] ∧ Hd (R = errD (chkG (ns.take i) (ns.drop i) roots))) (fun st => ns.length - slotI st 8) ?_ ?_
 ·exact ⟨0, 0, Nat.zero_le _, ⟨by decide, by decide⟩, I, I, I, I, I, I, I, hR⟩
 ·rintro st K ⟨i, roots, hi, hro, g8, g3, g0, g6, g7, g2, r2, hO⟩ hn hx hr
  have hl : ns.length ≤ 10000 := HL
  have hO' : R = errD (chkG (ns.take i) (ns.drop i) roots) := hO
  clear hO hpb
  by_cases h : i < ns.length
  ·have g9 : (i : Int) < ns.length := by omega
   have hw := wrapS i (by omega)
   have hwr : IntKind.i64.wrap (roots + 1) = roots + 1 := wrap64 _ (by omega) (by omega)
   obtain ⟨x, hx1⟩ := some_at h
   have hS : SmallD ns := HS
   have hsx := hS.2 x (List.mem_of_getElem? hx1)
   rw [chkG_at roots hx1] at hO'
   have ha := getD_map (f := Nd.d) hx1
   have q1 : callL Tryz.prog (ext11b chk) 56 [.list ((ns.map Nd.d).take i), x.d] [] = some (.bool (nodeF (ns.take i) x), [.no], []) := by
    rw [← List.map_take]
    exact node_L (ns.take i) x hsx
   have sz := szN ns
   have gle : (i : Int) ≤ ns.length := by omega
   rw [ndat] at ha q1
   have hrt : rootB x = (x.k == 1 && decide (x.p < 0)) := rfl
   rw [hrt] at hO'
   generalize x.at_.map At.d = LA at *
   generalize x.st.map D.str = LS at *
   generalize nodeF (ns.take i) x = b at *
   generalize x.p = p at *
   generalize x.k = k at *
   generalize x.sp = sp at *
   generalize x.nm = nm at *
   generalize x.tx = tx at *
   clear hS hsx hrt hx1
   cases b with
   | false =>
    rw [if_neg (by decide)] at hO'
    have hO2 : R = faultD 10 i := hO'
    have hf := fail_L (chk := chk) 10 i
    unfold faultD at hO2 hf
    subst hO2
    clear hn hx hl hR hO'
    repeat' (first|simp only [*, AVB, ↓reduceIte, Nat.reduceEqDiff, Nat.reduceLT, Nat.reduceLeDiff, reduceCtorEq, Nat.reduceBEq, Nat.reduceAdd, dIntBin]|refine drW_intro (by kernel_rfl) ?_)
    exact hr _ W
   | true =>
    rw [if_pos rfl] at hO'
    by_cases c1 : p < 0
    ·cases c2 : (k == 1) with
     | true =>
      rw [c2, decide_eq_true c1, Bool.true_and, if_pos rfl] at hO'
      have HO := Hd.mk hO'
      have HR := Hd.mk hro
      clear hO' hx hr hl hro
      repeat' (first|simp only [*, AVB, ↓reduceIte, Nat.reduceEqDiff, Nat.reduceLT, Nat.reduceLeDiff, reduceCtorEq, Nat.reduceBEq, Nat.reduceAdd, dIntBin]|refine drW_intro (by kernel_rfl) ?_)
      have hro : 0 ≤ roots ∧ roots ≤ i := HR
      exact hn _ ⟨i + 1, roots + 1, h, ⟨by omega, by omega⟩, L, L, L, L, L, L, L, HO⟩ Z
     | false =>
      rw [c2, Bool.false_and, if_neg (by decide)] at hO'
      have HO := Hd.mk hO'
      have HR := Hd.mk hro
      clear hO' hx hr hl hro
      repeat' (first|simp only [*, AVB, ↓reduceIte, Nat.reduceEqDiff, Nat.reduceLT, Nat.reduceLeDiff, reduceCtorEq, Nat.reduceBEq, Nat.reduceAdd, dIntBin]|refine drW_intro (by kernel_rfl) ?_)
      have hro : 0 ≤ roots ∧ roots ≤ i := HR
      exact hn _ ⟨i + 1, roots, h, ⟨by omega, by omega⟩, L, L, L, L, L, L, L, HO⟩ Z
    ·rw [decide_eq_false c1, Bool.and_false, if_neg (by decide)] at hO'
     have HO := Hd.mk hO'
     have HR := Hd.mk hro
     clear hO' hx hr hl hro
     have hlt : i + 1 ≤ ns.length := h
     repeat' (first|simp only [*, AVB, ↓reduceIte, Nat.reduceEqDiff, Nat.reduceLT, Nat.reduceLeDiff, reduceCtorEq, Nat.reduceBEq, Nat.reduceAdd, dIntBin]|refine drW_intro (by kernel_rfl) ?_|refine gw_intro (fun h => ?_) (fun h => ?_) <;> try simp only [AVH] at h)
     all_goals (
      have hro : 0 ≤ roots ∧ roots ≤ i := HR
      refine hn _ ⟨i + 1, roots, hlt, ⟨by omega, by omega⟩, L, L, L, L, L, L, L, HO⟩ ?_
      ·simp only [slotI, *, AVB, ↓reduceIte]
       omega)
  ·have g9 : ¬ (i : Int) < ns.length := by omega
   have hie : i = ns.length := by omega
   rw [chkG_end roots hie.symm] at hO'
   by_cases c1 : roots = 1
   ·rw [if_pos c1] at hO'
    have hO2 : R = .con .nilIface := hO'
    subst hO2 c1
    have b1 : ((1 : Int) != 1) = false := rfl
    clear hn hr hl hR hie hO'
    refine G ?_
    exact hx _ _ W
   ·rw [if_neg c1] at hO'
    have hO2 : R = faultD 15 i := hO'
    have b1 : (roots != 1) = true := by simpa using c1
    subst hie
    have hf := fail_L (chk := chk) 15 ns.length
    unfold faultD at hO2 hf
    subst hO2
    clear hn hr hl hR c1 hO'
    refine G ?_
    exact hx _ _ W
end Go.Av
namespace Go.Av
open Go.Proofs
variable [Rk] {chk : List D → Bool}
theorem elem_L (ns : List Nd) (n : Int) : callL Tryz.prog (ext11b chk) 104 [treeN ns, .int .i64 n] [] = some (.bool (elB ns n), [.no], []) := by
 obtain ⟨E, K, V, P, ht, _, _, _⟩ := treeN_form ns
 rw [ht]
 clear ht
 have lN := lenM ns Nd.d
 unfold elB
 by_cases h0 : 0 ≤ n
 ·by_cases h1 : n < ns.length
  ·obtain ⟨x, hx⟩ := some_at (show n.toNat < ns.length by omega)
   have ha := getD_map (f := Nd.d) hx
   rw [ndat] at ha
   have hk : kAt ns n.toNat = x.k := by unfold kAt; rw [hx]
   rw [decide_eq_true h0, decide_eq_true h1, hk, Bool.true_and, Bool.true_and]
   generalize x.at_.map At.d = LA at *
   generalize x.st.map D.str = LS at *
   generalize x.p = p at *
   generalize x.k = k at *
   generalize x.sp = sp at *
   generalize x.nm = nm at *
   generalize x.tx = tx at *
   clear hx hk
   exact cW 27 4 Tryz.func104
  ·rw [decide_eq_true h0, decide_eq_false h1, Bool.true_and, Bool.false_and]
   exact cW 27 4 Tryz.func104
 ·rw [decide_eq_false h0, Bool.false_and]
  exact cW 27 4 Tryz.func104
theorem relem_L (ns : List Nd) (n : Int) : callL Tryz.prog (ext11b chk) 11 [.list (ns.map Nd.d), .int .i64 n] [] = some (.bool (elB ns n), [.no], []) := by
 have lN := lenM ns Nd.d
 unfold elB
 by_cases h0 : 0 ≤ n
 ·by_cases h1 : n < ns.length
  ·obtain ⟨x, hx⟩ := some_at (show n.toNat < ns.length by omega)
   have ha := getD_map (f := Nd.d) hx
   rw [ndat] at ha
   have hk : kAt ns n.toNat = x.k := by unfold kAt; rw [hx]
   rw [decide_eq_true h0, decide_eq_true h1, hk, Bool.true_and, Bool.true_and]
   generalize x.at_.map At.d = LA at *
   generalize x.st.map D.str = LS at *
   generalize x.p = p at *
   generalize x.k = k at *
   generalize x.sp = sp at *
   generalize x.nm = nm at *
   generalize x.tx = tx at *
   clear hx hk
   exact cW 21 4 Tryz.func11
  ·rw [decide_eq_true h0, decide_eq_false h1, Bool.true_and, Bool.false_and]
   exact cW 21 4 Tryz.func11
 ·rw [decide_eq_false h0, Bool.false_and]
  exact cW 21 4 Tryz.func11
theorem parent_L (ns : List Nd) (n : Int) : callL Tryz.prog (ext11b chk) 66 [treeN ns, .int .i64 n] [] = some (.tuple [.int .i64 (parI ns n).1, .bool (parI ns n).2], [.no, .no], []) := by
 have hE := elem_L (chk := chk) ns n
 obtain ⟨E, K, V, P, ht, hPl, hP, hK⟩ := treeN_form ns
 rw [ht] at hE ⊢
 clear ht
 have lN := lenM ns Nd.d
 have lP := lenM P (D.int .i64)
 rw [hPl] at lP
 unfold parI
 cases he : elB ns n with
 | false =>
  rw [he] at hE
  rw [if_neg (by simp)]
  clear hK hP lN lP hPl he
  exact callK (m := 29) (res := [4, 5]) (rs := [.tmp 4, .tmp 5]) rfl Tryz.func66 rfl rfl rfl rfl rfl W
 | true =>
  rw [he] at hE
  obtain ⟨i, rfl, hi, hk⟩ := elB_at (ns := ns) (n := n) he
  obtain ⟨x, hx⟩ := some_at hi
  have ha := getD_map (f := Nd.d) hx
  rw [ndat] at ha
  have hp : pAt ns i = x.p := by unfold pAt; rw [hx]
  have g9 : (i : Int) < ns.length := by omega
  have tn : (i : Int).toNat = i := by omega
  rw [tn, hp]
  generalize x.at_.map At.d = LA at *
  generalize x.st.map D.str = LS at *
  generalize x.k = k at *
  generalize x.sp = sp at *
  generalize x.nm = nm at *
  generalize x.tx = tx at *
  generalize x.p = p at *
  clear hK hP lP hPl he hk hx hp tn
  by_cases c : 0 ≤ p
  ·rw [if_pos ⟨rfl, c⟩]
   have c' : ¬ p < 0 := by omega
   exact callK (m := 29) (res := [4, 5]) (rs := [.tmp 4, .tmp 5]) rfl Tryz.func66 rfl rfl rfl rfl rfl W
  ·rw [if_neg (fun h => c h.2)]
   have c' : p < 0 := by omega
   exact callK (m := 29) (res := [4, 5]) (rs := [.tmp 4, .tmp 5]) rfl Tryz.func66 rfl rfl rfl rfl rfl W
theorem sz1 (l : List Int) : szOk 1 (l.map (D.int .i64)) = true := by cases l <;> rfl
theorem clone_L (zs : List Int) (h : zs.length ≤ 1000000) : callL Tryz.prog (ext11b chk) 61 [.list (zs.map (.int .i64))] [] = some (.list (zs.map (.int .i64)), [], []) := by
 refine callL_ext (ext_cl rfl ?_)
 show (if szAll 1 (zs.map (D.int .i64)) = true then some (D.list (zs.map (.int .i64)), ([] : List Room), ([] : List Bx)) else none) = _
 rw [if_pos]
 unfold szAll
 simp only [Bool.and_eq_true, List.all_eq_true, decide_eq_true_eq, List.length_map]
 refine ⟨fun e he => ?_, h⟩
 obtain ⟨z, _, rfl⟩ := List.mem_map.1 he
 rfl
theorem row_L (ns : List Nd) (n : Int) (hS : ns.length ≤ 10000) : callL Tryz.prog (ext11b chk) 82 [treeN ns, .int .i64 n] [] = some (.list ((rowI ns n).map (.int .i64)), [if elB ns n = true then .no else .full], []) := by
 have hE := elem_L (chk := chk) ns n
 obtain ⟨E, K, V, P, ht, hPl, hP, hK⟩ := treeN_form ns
 rw [ht] at hE ⊢
 clear ht
 have lN := lenM ns Nd.d
 have lP := lenM P (D.int .i64)
 rw [hPl] at lP
 unfold rowI
 cases he : elB ns n with
 | false =>
  rw [he] at hE
  rw [if_neg (by simp)]
  clear hK hP lN lP hPl he hS
  exact cW 32 4 Tryz.func82
 | true =>
  rw [he] at hE
  obtain ⟨i, rfl, hi, hk⟩ := elB_at (ns := ns) (n := n) he
  obtain ⟨x, hx⟩ := some_at hi
  have ha := getD_map (f := Nd.d) hx
  rw [ndat] at ha
  have hp : pAt ns i = x.p := by unfold pAt; rw [hx]
  have g9 : (i : Int) < ns.length := by omega
  have tn : (i : Int).toNat = i := by omega
  rw [tn, if_pos rfl]
  have hpl := hP i hi
  have hkf := hK (pAt ns i)
  obtain ⟨t1, t2⟩ := rowL_pre (ns := ns) (key := pAt ns i) (show i + 1 ≤ ns.length by omega)
  have t3 := rowL_succ hk
  have t4 := rowL_len (ns := ns) (key := pAt ns i) (m := i + 1)
  have t5 : (rowL ns (pAt ns i) (i + 1)).length = (rowL ns (pAt ns i) i).length + 1 := by rw [t3]; simp
  have hcl := clone_L (chk := chk) (rowL ns (pAt ns i) (i + 1)) (by omega)
  rw [← t1, t5, List.map_take] at hcl
  rw [← t1, t5, List.map_take]
  rw [hp] at *
  generalize hm : (rowL ns x.p i).length = m at *
  have hw := wrapS m (by omega)
  have t6 : ((m + 1 : Nat) : Int) ≤ (rowL ns x.p ns.length).length := by omega
  clear t1 t2 t3 t4 t5 hP hK hS he hk hPl hm hx
  have lR := lenM (rowL ns x.p ns.length) (D.int .i64)
  have sz := sz1 (rowL ns x.p ns.length)
  generalize rowL ns x.p ns.length = Z at *
  generalize x.at_.map At.d = LA at *
  generalize x.st.map D.str = LS at *
  generalize x.k = k at *
  generalize x.sp = sp at *
  generalize x.nm = nm at *
  generalize x.tx = tx at *
  generalize x.p = p at *
  clear hp tn
  exact cW 32 4 Tryz.func82
theorem ahead_L (ns : List Nd) (n : Int) (hS : ns.length ≤ 10000) : callL Tryz.prog (ext11b chk) 80 [treeN ns, .int .i64 n] [] = some (.tuple [.int .i64 (ahdI ns n).1, .bool (ahdI ns n).2], [.no, .no], []) := by
 have hE := elem_L (chk := chk) ns n
 obtain ⟨E, K, V, P, ht, hPl, hP, hK⟩ := treeN_form ns
 rw [ht] at hE ⊢
 clear ht
 have lN := lenM ns Nd.d
 have lP := lenM P (D.int .i64)
 rw [hPl] at lP
 unfold ahdI
 cases he : elB ns n with
 | false =>
  rw [he] at hE
  rw [if_neg (by simp)]
  clear hK hP lN lP hPl he hS
  exact callK (m := 43) (res := [4, 5]) (rs := [.tmp 4, .tmp 5]) rfl Tryz.func80 rfl rfl rfl rfl rfl W
 | true =>
  rw [he] at hE
  obtain ⟨i, rfl, hi, hk⟩ := elB_at (ns := ns) (n := n) he
  obtain ⟨x, hx⟩ := some_at hi
  have ha := getD_map (f := Nd.d) hx
  rw [ndat] at ha
  have hp : pAt ns i = x.p := by unfold pAt; rw [hx]
  have g9 : (i : Int) < ns.length := by omega
  have tn : (i : Int).toNat = i := by omega
  rw [tn, if_pos rfl]
  have hpl := hP i hi
  have hkf := hK (pAt ns i)
  obtain ⟨t1, t2⟩ := rowL_pre (ns := ns) (key := pAt ns i) (show i ≤ ns.length by omega)
  have t4 := rowL_len (ns := ns) (key := pAt ns i) (m := i)
  rw [hp] at *
  by_cases c : (rowL ns x.p i).length = 0
  ·rw [List.length_eq_zero_iff.1 c]
   simp only [List.getLast?_nil]
   rw [c] at hpl
   have hpl' : (P.map (D.int .i64)).getD i .bad = .int .i64 0 := hpl
   clear t1 t2 t4 hP hK hS he hk hPl hx c hkf hpl
   generalize x.at_.map At.d = LA at *
   generalize x.st.map D.str = LS at *
   generalize x.k = k at *
   generalize x.sp = sp at *
   generalize x.nm = nm at *
   generalize x.tx = tx at *
   generalize x.p = p at *
   clear hp tn
   exact callK (m := 43) (res := [4, 5]) (rs := [.tmp 4, .tmp 5]) rfl Tryz.func80 rfl rfl rfl rfl rfl W
  ·obtain ⟨m, hm⟩ : ∃ m, (rowL ns x.p i).length = m + 1 := ⟨(rowL ns x.p i).length - 1, by omega⟩
   obtain ⟨a, hla⟩ : ∃ a, (rowL ns x.p i)[m]? = some a := ⟨_, List.getElem?_eq_getElem (by omega)⟩
   have hgl : (rowL ns x.p i).getLast? = some a := by rw [List.getLast?_eq_getElem?, hm]; exact hla
   have hat : (rowL ns x.p ns.length)[m]? = some a := by
    rw [← t1, List.getElem?_take, if_pos (by omega)] at hla
    exact hla
   have hgd := getD_map (f := D.int .i64) hat
   have lR := lenM (rowL ns x.p ns.length) (D.int .i64)
   have t6 : (m : Int) < (rowL ns x.p ns.length).length := by omega
   rw [hgl]
   rw [hm] at hpl
   have hw : IntKind.i64.wrap (((m + 1 : Nat) : Int) - 1) = (m : Int) := by rw [wrap64 _ (by omega) (by omega)]; omega
   have hz : ((((m + 1 : Nat) : Int)) == 0) = false := by simp; omega
   clear t1 t2 t4 hP hK hS he hk hPl hx c hgl hat hla hm
   generalize rowL ns x.p ns.length = Z at *
   generalize x.at_.map At.d = LA at *
   generalize x.st.map D.str = LS at *
   generalize x.k = k at *
   generalize x.sp = sp at *
   generalize x.nm = nm at *
   generalize x.tx = tx at *
   generalize x.p = p at *
   clear hp tn
   exact callK (m := 43) (res := [4, 5]) (rs := [.tmp 4, .tmp 5]) rfl Tryz.func80 rfl rfl rfl rfl rfl W
end Go.Av
namespace Go.Av
open Go.Proofs
variable [Rk] {chk : List D → Bool}
def zeroN : Nd := ⟨0, 0, [], [], [], [], []⟩
def inB' (ns : List Nd) (n : Int) : Bool := decide (0 ≤ n) && decide (n < ns.length)
def nodeI (ns : List Nd) (n : Int) : Nd := if inB' ns n = true then ns.getD n.toNat zeroN else zeroN
theorem node_is {x : Nd} (h : x.at_.length ≤ 1000000 ∧ x.st.length ≤ 1000000) : isNode x.d = true := by
 show ((x.at_.map At.d).all (fun e => (dcells e).length == 3) && (x.st.map D.str).all (fun e => (dcells e).length == 1) && decide ((x.at_.map At.d).length ≤ 1000000) && decide ((x.st.map D.str).length ≤ 1000000)) = true
 simp only [Bool.and_eq_true, List.all_eq_true, decide_eq_true_eq, List.length_map]
 refine ⟨⟨⟨?_, ?_⟩, h.1⟩, h.2⟩ <;> intro e he <;> obtain ⟨x, _, rfl⟩ := List.mem_map.1 he <;> rfl
theorem copy_L (x : Nd) (h : x.at_.length ≤ 1000000 ∧ x.st.length ≤ 1000000) : callL Tryz.prog (ext11b chk) 32 [x.d] [] = some (x.d, [], []) := by
 refine callL_ext (ext_cl rfl ?_)
 show (if isNode x.d = true then some (x.d, ([] : List Room), ([] : List Bx)) else none) = _
 rw [if_pos (node_is h)]
theorem node36_L (ns : List Nd) (n : Int) (hS : SmallD ns) : callL Tryz.prog (ext11b chk) 62 [treeN ns, .int .i64 n] [] = some (.tuple [(nodeI ns n).d, .bool (inB' ns n)], [.no, .no], []) := by
 obtain ⟨E, K, V, P, ht, _⟩ := treeN_form ns
 rw [ht]
 have lN := lenM ns Nd.d
 unfold nodeI inB'
 by_cases h0 : 0 ≤ n
 ·by_cases h1 : n < ns.length
  ·rw [decide_eq_true h0, decide_eq_true h1, Bool.and_self, if_pos rfl]
   obtain ⟨x, hx⟩ := some_at (show n.toNat < ns.length by omega)
   have ha := getD_map (f := Nd.d) hx
   have hc := copy_L (chk := chk) x ⟨(hS.2 x (List.mem_of_getElem? hx)).1, (hS.2 x (List.mem_of_getElem? hx)).2.1⟩
   have hg : ns.getD n.toNat zeroN = x := by simp [List.getD, hx]
   rw [hg]
   rw [ndat] at ha hc ⊢
   have hn : ¬ n < 0 := by omega
   have hn2 : ¬ (ns.length : Int) ≤ n := by omega
   clear hx hg hS ht
   generalize x.at_.map At.d = LA at *
   generalize x.st.map D.str = LS at *
   exact callK (m := 26) (res := [5]) (rs := [.cell 4 71, .tmp 5]) rfl Tryz.func62 rfl rfl rfl rfl rfl W
  ·rw [decide_eq_true h0, decide_eq_false h1, Bool.true_and, if_neg (by decide)]
   have hn : ¬ n < 0 := by omega
   have hn2 : (ns.length : Int) ≤ n := by omega
   have hz : zeroN.d = .agg [.int .i64 0, .int .i64 0, .str [], .str [], .list [], .list [], .str []] := rfl
   rw [hz]
   clear hS ht
   exact callK (m := 26) (res := [5]) (rs := [.cell 4 71, .tmp 5]) rfl Tryz.func62 rfl rfl rfl rfl rfl W
 ·rw [decide_eq_false h0, Bool.false_and, if_neg (by decide)]
  have hn : n < 0 := by omega
  have hz : zeroN.d = .agg [.int .i64 0, .int .i64 0, .str [], .str [], .list [], .list [], .str []] := rfl
  rw [hz]
  clear hS ht
  exact callK (m := 26) (res := [5]) (rs := [.cell 4 71, .tmp 5]) rfl Tryz.func62 rfl rfl rfl rfl rfl W
theorem idxN_find {α : Type} (f : α → Bool) : ∀ (l : List α) (k : Nat), (l.find? f = none ∧ idxN f k l = -1) ∨ ∃ (j : Nat) (a : α), l.find? f = some a ∧ l[j]? = some a ∧ idxN f k l = ((k + j : Nat) : Int)
 | [], k => .inl ⟨rfl, rfl⟩
 | a :: r, k => by
  rw [idxN, List.find?_cons]
  cases h : f a with
  | true => exact .inr ⟨0, a, rfl, rfl, by simp⟩
  | false =>
   rcases idxN_find f r (k + 1) with ⟨h1, h2⟩ | ⟨j, b, h1, h2, h3⟩
   ·exact .inl ⟨h1, by simpa using h2⟩
   ·refine .inr ⟨j + 1, b, h1, h2, ?_⟩
    rw [if_neg (by decide), h3]
    omega
def atsAt (ns : List Nd) (i : Nat) : List At := match ns[i]? with | some n => n.at_ | none => []
def stsAt (ns : List Nd) (i : Nat) : List (List UInt8) := match ns[i]? with | some n => n.st | none => []
def foundF : Option At → List UInt8 × Bool
 | some a => (a.vl, true)
 | none => ([], false)
def valI (ns : List Nd) (n : Int) (sp nm : List UInt8) : List UInt8 × Bool := if elB ns n = true then foundF ((atsAt ns n.toNat).find? (sameN sp nm)) else ([], false)
def staI (ns : List Nd) (n : Int) (nm : List UInt8) : Bool := elB ns n && (stsAt ns n.toNat).contains nm
theorem val38_L (ns : List Nd) (n : Int) (sp nm : List UInt8) (hS : SmallD ns) : callL Tryz.prog (ext11b chk) 100 [treeN ns, .int .i64 n, .str sp, .str nm] [] = some (.tuple [.str (valI ns n sp nm).1, .bool (valI ns n sp nm).2], [.no, .no], []) := by
 have hE := elem_L (chk := chk) ns n
 obtain ⟨E, K, V, P, ht, _⟩ := treeN_form ns
 rw [ht] at hE ⊢
 clear ht
 have lN := lenM ns Nd.d
 unfold valI
 cases he : elB ns n with
 | false =>
  rw [he] at hE
  rw [if_neg (by simp)]
  clear he hS
  exact callK (m := 40) (res := [8, 9]) (rs := [.tmp 8, .tmp 9]) rfl Tryz.func100 rfl rfl rfl rfl rfl W
 | true =>
  rw [he] at hE
  obtain ⟨i, rfl, hi, hk⟩ := elB_at (ns := ns) (n := n) he
  obtain ⟨x, hx⟩ := some_at hi
  have ha := getD_map (f := Nd.d) hx
  rw [ndat] at ha
  have g9 : (i : Int) < ns.length := by omega
  have tn : (i : Int).toNat = i := by omega
  have hat : atsAt ns i = x.at_ := by unfold atsAt; rw [hx]
  have hst : stsAt ns i = x.st := by unfold stsAt; rw [hx]
  have hsx := hS.2 x (List.mem_of_getElem? hx)
  rw [if_pos rfl, tn, hat]
  have hi1 := attr_L (chk := chk) x.at_ sp nm hsx.1
  have lA := lenM x.at_ At.d
  rcases idxN_find (sameN sp nm) x.at_ 0 with ⟨f1, f2⟩ | ⟨j, a, f1, f2, f3⟩
  ·rw [f1]
   rw [f2] at hi1
   simp only [foundF]
   clear hS hsx hx hat hst hk f1 f2 hi
   generalize x.at_.map At.d = LA at *
   generalize x.st.map D.str = LS at *
   exact callK (m := 40) (res := [8, 9]) (rs := [.tmp 8, .tmp 9]) rfl Tryz.func100 rfl rfl rfl rfl rfl W
  ·rw [f1]
   rw [f3, Nat.zero_add] at hi1
   have hg := getD_map (f := At.d) f2
   have hj : (j : Int) < x.at_.length := by have := (List.getElem?_eq_some_iff.1 f2).1; omega
   have hj0 : ¬ (j : Int) < 0 := by omega
   simp only [foundF]
   obtain ⟨a1, a2, a3⟩ := a
   have hg2 : (x.at_.map At.d).getD j .bad = .agg [.str a1, .str a2, .str a3] := hg
   clear hS hsx hx hat hst hk f1 f2 f3 hi hg
   generalize x.at_.map At.d = LA at *
   generalize x.st.map D.str = LS at *
   exact callK (m := 40) (res := [8, 9]) (rs := [.tmp 8, .tmp 9]) rfl Tryz.func100 rfl rfl rfl rfl rfl W
theorem sta40_L (ns : List Nd) (n : Int) (nm : List UInt8) (hS : SmallD ns) : callL Tryz.prog (ext11b chk) 69 [treeN ns, .int .i64 n, .str nm] [] = some (.bool (staI ns n nm), [.no], []) := by
 have hE := elem_L (chk := chk) ns n
 obtain ⟨E, K, V, P, ht, _⟩ := treeN_form ns
 rw [ht] at hE ⊢
 clear ht
 have lN := lenM ns Nd.d
 unfold staI
 cases he : elB ns n with
 | false =>
  rw [he] at hE
  rw [Bool.false_and]
  clear he hS
  exact cW 22 6 Tryz.func69
 | true =>
  rw [he] at hE
  obtain ⟨i, rfl, hi, hk⟩ := elB_at (ns := ns) (n := n) he
  obtain ⟨x, hx⟩ := some_at hi
  have ha := getD_map (f := Nd.d) hx
  rw [ndat] at ha
  have g9 : (i : Int) < ns.length := by omega
  have tn : (i : Int).toNat = i := by omega
  have hat : atsAt ns i = x.at_ := by unfold atsAt; rw [hx]
  have hst : stsAt ns i = x.st := by unfold stsAt; rw [hx]
  have hsx := hS.2 x (List.mem_of_getElem? hx)
  rw [Bool.true_and, tn, hst]
  have hc := contains_L (chk := chk) x.st nm hsx.2.1
  generalize x.st.contains nm = R at *
  clear hS hsx hx hat hst hk hi
  generalize x.at_.map At.d = LA at *
  generalize x.st.map D.str = LS at *
  exact cW 22 6 Tryz.func69
theorem find_at {xs : List At} {i : Nat} {x : At} (f : At → Bool) (hx : xs[i]? = some x) : (xs.drop i).find? f = if f x = true then some x else (xs.drop (i + 1)).find? f := by
 have h1 : i < xs.length := (List.getElem?_eq_some_iff.1 hx).1
 have e1 : xs[i] = x := (List.getElem?_eq_some_iff.1 hx).2
 rw [List.drop_eq_getElem_cons h1, e1, List.find?_cons]
 cases f x <;> rfl
theorem find_end {xs : List At} {i : Nat} (f : At → Bool) (h : xs.length ≤ i) : (xs.drop i).find? f = none := by
 rw [List.drop_eq_nil_of_le h]
 rfl
set_option maxHeartbeats 8000000 in
theorem rval39_L (ns : List Nd) (n : Int) (sp nm : List UInt8) (hS : SmallD ns) : callL Tryz.prog (ext11b chk) 72 [.list (ns.map Nd.d), .int .i64 n, .str sp, .str nm] [] = some (.tuple [.str (valI ns n sp nm).1, .bool (valI ns n sp nm).2], [.no, .no], []) := by
 have hE := relem_L (chk := chk) ns n
 have lN := lenM ns Nd.d
 unfold valI
 cases he : elB ns n with
 | false =>
  rw [he] at hE
  rw [if_neg (by simp)]
  clear he hS
  exact callK (m := 46) (res := [8, 9]) (rs := [.tmp 8, .tmp 9]) rfl Tryz.func72 rfl rfl rfl rfl rfl W
 | true =>
  rw [he] at hE
  obtain ⟨i, rfl, hi, hk⟩ := elB_at (ns := ns) (n := n) he
  obtain ⟨x, hx⟩ := some_at hi
  have ha := getD_map (f := Nd.d) hx
  rw [ndat] at ha
  have g9 : (i : Int) < ns.length := by omega
  have tn : (i : Int).toNat = i := by omega
  have hat : atsAt ns i = x.at_ := by unfold atsAt; rw [hx]
  have hst : stsAt ns i = x.st := by unfold stsAt; rw [hx]
  have hsx := hS.2 x (List.mem_of_getElem? hx)
  rw [if_pos rfl, tn, hat]
  have HL := Hd.mk hsx.1
  have lA := lenM x.at_ At.d
  obtain ⟨R, hR⟩ : ∃ R, Hd (R = (x.at_.drop 0).find? (sameN sp nm)) := ⟨_, rfl⟩
  rw [show x.at_.find? (sameN sp nm) = R from (show R = (x.at_.drop 0).find? (sameN sp nm) from hR).symm]
  clear hS hsx hx hat hst hk hi
  generalize x.at_ = l at *
  generalize x.st.map D.str = LS at *
  refine callK (m := 46) (res := [8, 9]) (rs := [.tmp 8, .tmp 9]) rfl Tryz.func72 rfl rfl rfl rfl rfl ?_
  refine G ?_
  clear hE
  refine loopH (fun st => ∃ m : Nat, m ≤ l.length ∧ st.slot 10 = .int .i64 m ∧ st.slot 0 = .list (ns.map Nd.d) ∧ st.slot 1 = .int .i64 i ∧ st.slot 2 = .str sp ∧ st.slot 3 = .str nm ∧ st.slot 8 = .str [] ∧ st.room 8 = [] ∧ st.slot 9 = .bool false ∧ st.room 9 = [] ∧ Hd (R = (l.drop m).find? (sameN sp nm))) (fun st => l.length - slotI st 10) ?_ ?_
  ·exact ⟨0, Nat.zero_le _, I, I, I, I, I, I, I, I, I, hR⟩
  ·rintro st K ⟨m, hm, g10, g0, g1, g2, g3, g8, r8, g9', r9, hO⟩ hn hx hr
   have hl : l.length ≤ 1000000 := HL
   have hO' : R = (l.drop m).find? (sameN sp nm) := hO
   clear hO
   by_cases h : m < l.length
   ·have gm : (m : Int) < l.length := by omega
    have hw := wrapS m (by omega)
    obtain ⟨y, hy1⟩ := some_at h
    rw [find_at _ hy1] at hO'
    have hb := getD_map (f := At.d) hy1
    obtain ⟨a1, a2, a3⟩ := y
    have hb2 : (l.map At.d).getD m .bad = .agg [.str a1, .str a2, .str a3] := hb
    clear hb hy1 hl
    cases c1 : (a1 == sp) with
    | false =>
     rw [show sameN sp nm ⟨a1, a2, a3⟩ = false by show (a1 == sp && a2 == nm) = false; rw [c1]; rfl, if_neg (by decide)] at hO'
     have HO : Hd (R = (l.drop (m + 1)).find? (sameN sp nm)) := hO'
     clear hO' hx hr
     refine G ?_
     exact hn _ ⟨m + 1, h, L, L, L, L, L, L, L, L, L, HO⟩ Z
    | true =>
     cases c2 : (a2 == nm) with
     | false =>
      rw [show sameN sp nm ⟨a1, a2, a3⟩ = false by show (a1 == sp && a2 == nm) = false; rw [c1, c2]; rfl, if_neg (by decide)] at hO'
      have HO : Hd (R = (l.drop (m + 1)).find? (sameN sp nm)) := hO'
      clear hO' hx hr
      refine G ?_
      exact hn _ ⟨m + 1, h, L, L, L, L, L, L, L, L, L, HO⟩ Z
     | true =>
      rw [show sameN sp nm ⟨a1, a2, a3⟩ = true by show (a1 == sp && a2 == nm) = true; rw [c1, c2]; rfl, if_pos rfl] at hO'
      subst hO'
      simp only [foundF] at *
      clear hx hn hR
      refine G ?_
      exact hr _ W
   ·have gm : ¬ (m : Int) < l.length := by omega
    rw [find_end _ (by omega)] at hO'
    subst hO'
    simp only [foundF] at *
    clear hn hr hl hR
    refine G ?_
    exact hx _ _ W
end Go.Av
namespace Go.Av
open Go.Proofs
variable [Rk] {chk : List D → Bool}
def lowC (x : UInt8) : UInt8 := if 65 ≤ x.toNat ∧ x.toNat ≤ 90 then x + 32 else x
def lowB (l : List UInt8) : List UInt8 := l.map lowC
def lowI (n : Int) : Int := if n ≥ 65 ∧ n ≤ 90 then n + 32 else n
set_option maxHeartbeats 1000000 in
theorem small_L (n : Int) (h0 : 0 ≤ n) (h1 : n ≤ 1000000) : callL Tryz.prog (ext11b chk) 184 [.int .i64 n] [] = some (.int .i64 (lowI n), [.no], []) := by
 refine cK 13 2 Tryz.func184 ?_
 repeat' (first|simp only [*, AVB, AVY, ↓reduceIte, Nat.reduceEqDiff, Nat.reduceLT, Nat.reduceLeDiff, reduceCtorEq, Nat.reduceBEq, String.reduceBEq, Nat.reduceAdd, Nat.reduceSub, Nat.reduceMul, Int.reduceLE, Int.reduceLT, Int.reduceToNat, Int.reduceBEq, Int.reduceBNe, List.zipWith, dIntBin]|refine gw_intro (fun h => ?_) (fun h => ?_) <;> try simp only [AVH] at h)
 ·rw [wrap64 (n + 97) (by omega) (by omega), wrap64 _ (by omega) (by omega), lowI, if_pos (by omega)]
  congr 3
  omega
 ·rw [lowI, if_neg (by omega)]
 ·rw [lowI, if_neg (by omega)]
theorem lowC_I (x : UInt8) : IntKind.u8.wrap (lowI x.toNat) = ((lowC x).toNat : Int) := by
 have h := x.toNat_lt
 unfold lowI lowC
 rw [IntKind.wrap_u8]
 split <;> split
 ·rw [UInt8.toNat_add]
  have : (32 : UInt8).toNat = 32 := rfl
  omega
 ·omega
 ·omega
 ·omega
def byteD (b : UInt8) : D := .int .u8 b.toNat
theorem row_bytes : ∀ (n : Nat) (l : List UInt8), l.length = n → rowList 1 false n (l.map byteD) = l.map byteD
 | 0, [], _ => rfl
 | n + 1, x :: r, h => by
  simp only [List.map_cons, rowList, List.take_succ_cons, List.take_zero, List.drop_succ_cons, List.drop_zero, rowElem, List.headD_cons]
  rw [row_bytes n r (by simpa using h)]
  rfl
theorem bytes_of : ∀ (l : List UInt8), bytesOf (l.map byteD) = some l
 | [] => rfl
 | x :: r => by
  show (bytesOf (r.map byteD)).map (UInt8.ofNat ((x.toNat : Int)).toNat :: ·) = _
  rw [bytes_of r]
  simp
set_option maxHeartbeats 1000000 in
theorem lower_L (l : List UInt8) (hl : l.length < 1099511627776) : callL Tryz.prog (ext11b chk) 163 [.str l] [] = some (.str (lowB l), [.no], []) := by
 refine cK 25 2 Tryz.func163 ?_
 have e0 : (fun b : UInt8 => D.int .u8 b.toNat) = byteD := rfl
 refine Gy ?_
 refine loopH (fun s => ∃ i : Nat, i ≤ l.length ∧ s.slot 10 = .int .i64 i ∧ s.slot 9 = .int .i64 l.length ∧ s.slot 8 = .row 7 1 l.length 1 false ∧ s.slot 3 = .row 7 1 l.length 1 false ∧
  ∃ rs, s.box 7 = some ⟨1, ((lowB (l.take i)) ++ l.drop i).map byteD, rs⟩) (fun s => l.length - slotI s 10) ?_ ?_
 ·refine ⟨0, Nat.zero_le _, ?_, ?_, ?_, ?_, [], ?_⟩
  all_goals simp only [*, AVB, AVY, ↓reduceIte, Nat.reduceEqDiff, Nat.reduceLT, Nat.reduceLeDiff, reduceCtorEq, Nat.reduceBEq, String.reduceBEq, Nat.reduceAdd, Nat.reduceSub, Nat.reduceMul, Int.reduceLE, Int.reduceLT, Int.reduceToNat, Int.reduceBEq, Int.reduceBNe, List.zipWith, dIntBin, List.length_map]
  all_goals rfl
 ·rintro s K ⟨i, hi, h10, h9, h8, h3, rs, hb⟩ hn hx hr
  by_cases hlt : i < l.length
  ·obtain ⟨x, hxl⟩ : ∃ x, l[i]? = some x := ⟨l[i], List.getElem?_eq_getElem hlt⟩
   have hlt' : (i : Int) < l.length := by omega
   have hlen : (lowB (l.take i)).length = i := by simp [lowB]; omega
   have hget : (((lowB (l.take i)) ++ l.drop i).map byteD)[i]? = some (.int .u8 x.toNat) := by
    rw [List.getElem?_map, List.getElem?_append_right (by omega), hlen, Nat.sub_self, List.getElem?_drop, Nat.add_zero, hxl]
    rfl
   have hxb := x.toNat_lt
   have hw : IntKind.i64.wrap (x.toNat : Int) = x.toNat := wrap64 _ (by omega) (by omega)
   have hs := small_L (chk := chk) (x.toNat : Int) (by omega) (by omega)
   have hc := lowC_I x
   have hfit : i + 1 ≤ (((lowB (l.take i)) ++ l.drop i).map byteD).length := by simp [hlen]; omega
   have hw1 : IntKind.i64.wrap ((i : Int) + 1) = ((i + 1 : Nat) : Int) := by rw [wrap64 _ (by omega) (by omega)]; omega
   refine Gy ?_
   refine hn _ ⟨i + 1, hlt, ?_, ?_, ?_, ?_, putR rs i 1 [], ?_⟩ ?_
   ·exact L
   ·exact L
   ·exact L
   ·exact L
   ·simp only [*, AVL, ↓reduceIte, Nat.reduceEqDiff, Nat.reduceLT, Nat.reduceLeDiff, reduceCtorEq]
    congr 2
    rw [List.map_append, List.take_append_of_le_length (by simp [hlen]), List.take_of_length_le (by simp [hlen]), List.drop_append, List.drop_eq_nil_of_le (by simp [hlen])]
    rw [show l.take (i + 1) = l.take i ++ [x] from by rw [List.take_add_one, hxl]; rfl]
    simp [lowB, byteD, hlen]
    omega
   ·exact Zy
  ·have hge : ¬ (i : Int) < l.length := by omega
   refine Gy ?_
   refine hx 0 _ ?_
   have hil : i = l.length := by omega
   subst hil
   rw [List.take_length, List.drop_length, List.append_nil] at hb
   have hfr : l.length ≤ ((lowB l).map byteD).length := by simp [lowB]
   have hrl : rowList 1 false l.length ((lowB l).map byteD) = (lowB l).map byteD := row_bytes l.length (lowB l) (by simp [lowB])
   have hby := bytes_of (lowB l)
   exact Wy
end Go.Av
namespace Go.Av
open Go.Proofs
variable [Rk] {chk : List D → Bool}
set_option maxHeartbeats 1000000 in
theorem rsmall_L (n : Int) (h0 : 0 ≤ n) (h1 : n ≤ 1000000) : callL Tryz.prog (ext11b chk) 109 [.int .i64 n] [] = some (.int .i64 (lowI n), [.no], []) := by
 refine cK 12 2 Tryz.func109 ?_
 repeat' (first|simp only [*, AVB, AVY, ↓reduceIte, Nat.reduceEqDiff, Nat.reduceLT, Nat.reduceLeDiff, reduceCtorEq, Nat.reduceBEq, String.reduceBEq, Nat.reduceAdd, Nat.reduceSub, Nat.reduceMul, Int.reduceLE, Int.reduceLT, Int.reduceToNat, Int.reduceBEq, Int.reduceBNe, List.zipWith, dIntBin]|refine gw_intro (fun h => ?_) (fun h => ?_) <;> try simp only [AVH] at h)
 ·rw [wrap64 (n + 32) (by omega) (by omega), lowI, if_pos (by omega)]
 ·rw [lowI, if_neg (by omega)]
 ·rw [lowI, if_neg (by omega)]
theorem szOk_bytes (l : List UInt8) : szOk 1 (l.map byteD) = true := by
 cases l <;> rfl
theorem at_get {l : List UInt8} {i : Nat} (h : i < l.length) : ∃ x, l[i]? = some x ∧ l.getD i 0 = x := ⟨l[i], List.getElem?_eq_getElem h, by simp [List.getD, h]⟩
set_option maxHeartbeats 1000000 in
theorem rlower_L (l : List UInt8) (hl : l.length < 1000000000) : ∃ r, callL Tryz.prog (ext11b chk) 73 [.str l] [] = some (.str (lowB l), r, []) := by
 refine ⟨[.no], ?_⟩
 refine cK 23 2 Tryz.func73 ?_
 refine Gy ?_
 refine loopH (fun s => ∃ i : Nat, i ≤ l.length ∧ s.slot 4 = .int .i64 i ∧ s.slot 0 = .str l ∧ s.slot 3 = .list ((lowB (l.take i)).map byteD) ∧ (s.room 3 = [.full] ∨ s.room 3 = [.own 5] ∨ s.room 3 = [.fresh])) (fun s => l.length - slotI s 4) ?_ ?_
 ·exact ⟨0, Nat.zero_le _, Iy, Iy, Iy, Iy⟩
 ·rintro s K ⟨i, hi, h4, h0, h3, hrm⟩ hn hx hr
  by_cases hlt : i < l.length
  ·obtain ⟨x, hxl, hxd⟩ := at_get hlt
   have hlt' : (i : Int) < l.length := by omega
   have hlen : (lowB (l.take i)).length = i := by simp [lowB]; omega
   have hxb := x.toNat_lt
   have hw : IntKind.i64.wrap (x.toNat : Int) = x.toNat := wrap64 _ (by omega) (by omega)
   have hs := rsmall_L (chk := chk) (x.toNat : Int) (by omega) (by omega)
   have hc := lowC_I x
   have hfit : ((lowB (l.take i)).map byteD).length + 1 ≤ 1073741824 := by simp [hlen]; omega
   have hsz := szOk_bytes (lowB (l.take i))
   have hw1 : IntKind.i64.wrap ((i : Int) + 1) = ((i + 1 : Nat) : Int) := by rw [wrap64 _ (by omega) (by omega)]; omega
   have hnext : (lowB (l.take i)).map byteD ++ [.int .u8 (lowC x).toNat] = (lowB (l.take (i + 1))).map byteD := by
    rw [show l.take (i + 1) = l.take i ++ [x] from by rw [List.take_add_one, hxl]; rfl]
    simp [lowB, byteD]
   rcases hrm with hrm | hrm | hrm
   all_goals
    refine Gy ?_
    exact hn _ ⟨i + 1, hlt, L, L, L, L⟩ Zy
  ·have hge : ¬ (i : Int) < l.length := by omega
   refine Gy ?_
   refine hx 0 _ ?_
   have hil : i = l.length := by omega
   subst hil
   rw [List.take_length] at h3
   have hby := bytes_of (lowB l)
   exact Wy
end Go.Av
namespace Go.Av
open Go.Proofs
variable [Rk] {chk : List D → Bool}
theorem take_any {α : Type} {p : α → Bool} {l : List α} {i : Nat} {x : α} (h : l[i]? = some x) : (l.take (i + 1)).any p = ((l.take i).any p || p x) := by
 rw [List.take_add_one, h]; simp
theorem any_at {α : Type} {p : α → Bool} {l : List α} {i : Nat} {x : α} (h : l[i]? = some x) (hp : p x = true) : l.any p = true := List.any_eq_true.2 ⟨x, List.mem_of_getElem? h, hp⟩
theorem blank_idx (x : UInt8) : (0 : Int) ≤ idxB (UInt8.ofNat (x.toNat : Int).toNat) 0 [32, 9, 10, 12, 13] ↔ blankB x = true := by
 simp only [idxB, blankB, Int.toNat_natCast, UInt8.ofNat_toNat, Bool.or_eq_true, beq_iff_eq]
 constructor
 ·intro h
  split at h
  ·rename_i e; simp [← e]
  split at h
  ·rename_i e; simp [← e]
  split at h
  ·rename_i e; simp [← e]
  split at h
  ·rename_i e; simp [← e]
  split at h
  ·rename_i e; simp [← e]
  ·omega
 ·rintro ((((rfl | rfl) | rfl) | rfl) | rfl) <;> decide
set_option maxHeartbeats 1000000 in
theorem blank_L (l : List UInt8) (hl : l.length < 1000000000) : callL Tryz.prog (ext11b chk) 162 [.str l] [] = some (.bool (l.any blankB), [.no], []) := by
 refine cK 15 2 Tryz.func162 ?_
 refine Gy ?_
 refine loopH (fun s => ∃ i : Nat, i ≤ l.length ∧ s.slot 6 = .int .i64 i ∧ s.slot 5 = .int .i64 l.length ∧ s.slot 0 = .str l ∧ (l.take i).any blankB = false) (fun s => l.length - slotI s 6) ?_ ?_
 ·exact ⟨0, Nat.zero_le _, Iy, Iy, Iy, Iy⟩
 ·rintro s K ⟨i, hi, h6, h5, h0, hany⟩ hn hx hr
  by_cases hlt : i < l.length
  ·obtain ⟨x, hxl, hxd⟩ := at_get hlt
   have hlt' : (i : Int) < l.length := by omega
   have hw1 : IntKind.i64.wrap ((i : Int) + 1) = ((i + 1 : Nat) : Int) := by rw [wrap64 _ (by omega) (by omega)]; omega
   have hs : callL Tryz.prog (ext11b chk) 166 [.str [32, 9, 10, 12, 13], .int .u8 x.toNat] [] = some (.int .i64 (idxB (UInt8.ofNat (x.toNat : Int).toNat) 0 [32, 9, 10, 12, 13]), [], []) := callL_ext (ext_6 (by decide) rfl)
   have hb := blank_idx x
   have hta := take_any (p := blankB) hxl
   have hat := any_at (p := blankB) hxl
   generalize idxB (UInt8.ofNat (x.toNat : Int).toNat) 0 [32, 9, 10, 12, 13] = z at hs hb
   by_cases hz : z ≥ 0
   ·have hbl := hat (hb.1 hz)
    clear hb hta hat
    refine Gy ?_
    exact hr _ Wy
   ·have hbl : blankB x = false := by
     cases hbx : blankB x with
     | false => rfl
     | true => exact absurd (hb.2 hbx) hz
    rw [hany, hbl] at hta
    clear hb hat
    refine Gy ?_
    exact hn _ ⟨i + 1, hlt, L, L, L, hta⟩ Zy
  ·have hge : ¬ (i : Int) < l.length := by omega
   refine Gy ?_
   refine hx 0 _ ?_
   have hil : i = l.length := by omega
   subst hil
   rw [List.take_length] at hany
   exact Wy
set_option maxHeartbeats 2000000 in
theorem rblank_L (l : List UInt8) (hl : l.length < 1000000000) : callL Tryz.prog (ext11b chk) 75 [.str l] [] = some (.bool (l.any blankB), [.no], []) := by
 refine cK 38 2 Tryz.func75 ?_
 refine Gy ?_
 refine loopH (fun s => ∃ i : Nat, i ≤ l.length ∧ s.slot 3 = .int .i64 i ∧ s.slot 0 = .str l ∧ (l.take i).any blankB = false) (fun s => l.length - slotI s 3) ?_ ?_
 ·exact ⟨0, Nat.zero_le _, Iy, Iy, Iy⟩
 ·rintro s K ⟨i, hi, h6, h0, hany⟩ hn hx hr
  by_cases hlt : i < l.length
  ·obtain ⟨x, hxl, hxd⟩ := at_get hlt
   have hlt' : (i : Int) < l.length := by omega
   have hw1 : IntKind.i64.wrap ((i : Int) + 1) = ((i + 1 : Nat) : Int) := by rw [wrap64 _ (by omega) (by omega)]; omega
   have hta := take_any (p := blankB) hxl
   have hat := any_at (p := blankB) hxl
   have hbx : blankB x = (((((x.toNat : Int) == 32 || (x.toNat : Int) == 9) || (x.toNat : Int) == 10) || (x.toNat : Int) == 13) || (x.toNat : Int) == 12) := by
    have key : ∀ n : Nat, n < 256 → (x == UInt8.ofNat n) = ((x.toNat : Int) == (n : Int)) := fun n hn => by
     rw [Bool.eq_iff_iff, beq_iff_eq, beq_iff_eq, ← UInt8.toNat_inj, UInt8.toNat_ofNat']
     omega
    unfold blankB
    have k1 := key 32 (by decide); have k2 := key 9 (by decide); have k3 := key 10 (by decide); have k4 := key 13 (by decide); have k5 := key 12 (by decide)
    exact congr (congrArg _ (congr (congrArg _ (congr (congrArg _ (congr (congrArg _ k1) k2)) k3)) k4)) k5
   rw [hany, hbx] at hta
   rw [hbx] at hat
   clear hbx
   have hat' : ¬ (((((x.toNat : Int) == 32 || (x.toNat : Int) == 9) || (x.toNat : Int) == 10) || (x.toNat : Int) == 13) || (x.toNat : Int) == 12) = true ∨ l.any blankB = true := by
    by_cases h : (((((x.toNat : Int) == 32 || (x.toNat : Int) == 9) || (x.toNat : Int) == 10) || (x.toNat : Int) == 13) || (x.toNat : Int) == 12) = true
    ·exact .inr (hat h)
    ·exact .inl h
   clear hat
   replace hta := Hd.mk hta
   replace hat' := Hd.mk hat'
   repeat' (first|simp only [*, AVB, AVY, ↓reduceIte, Nat.reduceEqDiff, Nat.reduceLT, Nat.reduceLeDiff, reduceCtorEq, Nat.reduceBEq, String.reduceBEq, Nat.reduceAdd, Nat.reduceSub, Nat.reduceMul, Int.reduceLE, Int.reduceLT, Int.reduceToNat, Int.reduceBEq, Int.reduceBNe, List.zipWith, dIntBin]|refine gw_intro (fun h => ?_) (fun h => ?_) <;> try simp only [AVH] at h)
   all_goals
    first
    | (refine hr _ ?_
       have ha : l.any blankB = true := (hat' : _ ∨ _).resolve_left (fun hno => hno (by simp [*]))
       exact Wy
       done)
    | (refine hn _ ⟨i + 1, hlt, ?_, ?_, ?_⟩ ?_
       ·exact L
       ·exact L
       ·exact Eq.trans hta (by simp [*])
       ·simp only [slotI, *, AVB, AVY, ↓reduceIte, Nat.reduceEqDiff, Nat.reduceLT, Nat.reduceLeDiff, reduceCtorEq, Nat.reduceBEq, String.reduceBEq, Nat.reduceAdd, Nat.reduceSub, Nat.reduceMul, Int.reduceLE, Int.reduceLT, Int.reduceToNat, Int.reduceBEq, Int.reduceBNe, List.zipWith, dIntBin]
        omega)
  ·have hge : ¬ (i : Int) < l.length := by omega
   refine Gy ?_
   refine hx 0 _ ?_
   have hil : i = l.length := by omega
   subst hil
   rw [List.take_length] at hany
   exact Wy
end Go.Av
namespace Go.Av
open Go.Proofs
variable [Rk] {chk : List D → Bool}
def idxL (t : List UInt8) : Nat → List (List UInt8) → Int
 | _, [] => -1
 | k, x :: r => if (t == x) = true then (k : Int) else idxL t (k + 1) r
theorem idxL_at {t : List UInt8} : ∀ {ls : List (List UInt8)} {k i : Nat} {x : List UInt8}, (∀ j y, j < i → ls[j]? = some y → (t == y) = false) → ls[i]? = some x → (t == x) = true → idxL t k ls = ((k + i : Nat) : Int)
 | [], k, i, x, _, h, _ => by simp at h
 | y :: r, k, 0, x, _, h, hx => by
  simp at h
  subst h
  simp [idxL, hx]
 | y :: r, k, i + 1, x, ha, h, hx => by
  have h0 := ha 0 y (Nat.succ_pos i) rfl
  simp only [idxL, h0, Bool.false_eq_true, if_false]
  rw [idxL_at (i := i) (x := x) (fun j z hj hz => ha (j + 1) z (by omega) hz) h hx]
  congr 1
  omega
theorem idxL_no {t : List UInt8} : ∀ {ls : List (List UInt8)} {k : Nat}, (∀ (j : Nat) y, ls[j]? = some y → (t == y) = false) → idxL t k ls = -1
 | [], _, _ => rfl
 | y :: r, k, h => by
  have h0 := h 0 y rfl
  simp only [idxL, h0, Bool.false_eq_true, if_false]
  exact idxL_no fun j z hz => h (j + 1) z hz
theorem idxL_has {t : List UInt8} : ∀ {ls : List (List UInt8)} {k : Nat}, decide (idxL t k ls ≥ 0) = ls.contains t
 | [], k => rfl
 | y :: r, k => by
  simp only [idxL, List.contains_cons]
  split
  ·rename_i h; simp [h]
  ·rename_i h
   rw [idxL_has]
   have : (t == y) = false := by simpa using h
   rw [this]
   rfl
set_option maxHeartbeats 1000000 in
theorem index6_L (ls : List (List UInt8)) (t : List UInt8) (hl : ls.length < 1000000000) : callL Tryz.prog (ext11b chk) 130 [.list (ls.map .str), .str t] [] = some (.int .i64 (idxL t 0 ls), [.no], []) := by
 refine cK 19 4 Tryz.func130 ?_
 refine Gy ?_
 refine loopH (fun s => ∃ i : Nat, i ≤ ls.length ∧ s.slot 8 = .int .i64 i ∧ s.slot 7 = .int .i64 ls.length ∧ s.slot 0 = .list (ls.map .str) ∧ s.slot 1 = .str t ∧ (∀ (j : Nat) y, j < i → ls[j]? = some y → (t == y) = false)) (fun s => ls.length - slotI s 8) ?_ ?_
 ·refine ⟨0, Nat.zero_le _, ?_, ?_, ?_, ?_, fun j y hj => absurd hj (Nat.not_lt_zero j)⟩
  all_goals simp only [*, AVB, AVY, ↓reduceIte, Nat.reduceEqDiff, Nat.reduceLT, Nat.reduceLeDiff, reduceCtorEq, Nat.reduceBEq, String.reduceBEq, Nat.reduceAdd, Nat.reduceSub, Nat.reduceMul, Int.reduceLE, Int.reduceLT, Int.reduceToNat, Int.reduceBEq, Int.reduceBNe, List.zipWith, dIntBin, List.length_map]
  all_goals rfl
 ·rintro s K ⟨i, hi, h8, h7, h0, h1, hany⟩ hn hx hr
  by_cases hlt : i < ls.length
  ·obtain ⟨x, hxl⟩ : ∃ x, ls[i]? = some x := ⟨ls[i], List.getElem?_eq_getElem hlt⟩
   have hlt' : (i : Int) < ls.length := by omega
   have hlm : ((ls.map D.str).length : Int) = ls.length := by simp
   have hgd : (ls.map D.str).getD i .bad = .str x := by simp [List.getD, hxl]
   have hw1 : IntKind.i64.wrap ((i : Int) + 1) = ((i + 1 : Nat) : Int) := by rw [wrap64 _ (by omega) (by omega)]; omega
   have hany' := Hd.mk hany
   clear hany
   cases htx : (t == x) with
   | true =>
    have hres := idxL_at (k := 0) hany' hxl htx
    rw [Nat.zero_add] at hres
    refine Gy ?_
    exact hr _ Wy
   | false =>
    refine Gy ?_
    refine hn _ ⟨i + 1, hlt, ?_, ?_, ?_, ?_, ?_⟩ ?_
    ·exact L
    ·exact L
    ·exact L
    ·exact L
    ·intro j y hj hy
     rcases Nat.lt_succ_iff_lt_or_eq.1 hj with h | rfl
     ·exact hany' j y h hy
     ·rw [hxl] at hy
      injection hy with hy
      rw [← hy]
      exact htx
    ·exact Zy
  ·have hge : ¬ (i : Int) < ls.length := by omega
   have hany' := Hd.mk hany
   clear hany
   refine Gy ?_
   refine hx 0 _ ?_
   have hres := idxL_no (k := 0) fun j y hy => hany' j y (by have := (List.getElem?_eq_some_iff.1 hy).1; omega) hy
   exact Wy
theorem has6_L (ls : List (List UInt8)) (t : List UInt8) (hl : ls.length < 1000000000) : callL Tryz.prog (ext11b chk) 108 [.list (ls.map .str), .str t] [] = some (.bool (ls.contains t), [.no], []) := by
 refine cK 9 4 Tryz.func108 ?_
 have hs := index6_L (chk := chk) ls t hl
 have hc := idxL_has (t := t) (ls := ls) (k := 0)
 exact Wy
def condD (op : Int) (t : List UInt8) (fold : Bool) : D := .agg [.int .i64 op, .str t, .bool fold]
def lowC1 (fold : Bool) (l : List UInt8) : List UInt8 := if fold = true then lowB l else l
theorem plain_L (op : Int) (t v : List UInt8) (fold : Bool) (ht : t.length < 1099511627776) (hv : v.length < 1099511627776) : callL Tryz.prog (ext11b chk) 132 [condD op t fold, .str v] [] = some (.tuple [condD op (lowC1 fold t) fold, .str (lowC1 fold v)], [.no, .no], []) := by
 unfold condD
 refine callK (m := 16) (res := [5]) (rs := [.cell 4 38, .tmp 5]) rfl Tryz.func132 rfl rfl rfl rfl rfl ?_
 have h1 := lower_L (chk := chk) t ht
 have h2 := lower_L (chk := chk) v hv
 cases fold
 all_goals
  simp only [lowC1]
  exact Wy
theorem preB_eq : ∀ (p s : List UInt8), preB p s = (decide (p.length ≤ s.length) && (s.take p.length == p))
 | [], s => by simp [preB]
 | _ :: _, [] => by simp [preB]
 | a :: p, b :: s => by
  rw [preB, preB_eq p s]
  simp only [List.length_cons, List.take_succ_cons, List.cons_beq_cons]
  rw [show decide (p.length + 1 ≤ s.length + 1) = decide (p.length ≤ s.length) from by simp]
  rw [show (b == a) = (a == b) from by rw [Bool.eq_iff_iff, beq_iff_eq, beq_iff_eq]; exact eq_comm]
  cases (a == b) <;> cases decide (p.length ≤ s.length) <;> rfl
theorem pre38_L (s p : List UInt8) : callL Tryz.prog (ext11b chk) 168 [.str s, .str p] [] = some (.bool (preB p s), [.no], []) := by
 refine cK 18 4 Tryz.func168 ?_
 rw [preB_eq]
 by_cases h : p.length ≤ s.length
 ·have h' : (p.length : Int) ≤ s.length := by omega
  exact Wy
 ·have h' : ¬ (p.length : Int) ≤ s.length := by omega
  exact Wy
theorem pre_L (s p : List UInt8) : callL Tryz.prog (ext11b chk) 135 [.str s, .str p] [] = some (.bool (preB p s), [.no], []) := by
 refine cK 8 4 Tryz.func135 ?_
 have h1 := pre38_L (chk := chk) s p
 exact Wy
theorem suf39_L (s p : List UInt8) (hs : s.length < 1099511627776) (hp : p.length < 1099511627776) : callL Tryz.prog (ext11b chk) 169 [.str s, .str p] [] = some (.bool (decide (p.length ≤ s.length) && (s.drop (s.length - p.length) == p)), [.no], []) := by
 refine cK 21 4 Tryz.func169 ?_
 by_cases h : p.length ≤ s.length
 ·have h' : (p.length : Int) ≤ s.length := by omega
  have hw : IntKind.i64.wrap ((s.length : Int) - p.length) = ((s.length - p.length : Nat) : Int) := by rw [wrap64 _ (by omega) (by omega)]; omega
  have hle : ((s.length - p.length : Nat) : Int) ≤ s.length := by omega
  exact Wy
 ·have h' : ¬ (p.length : Int) ≤ s.length := by omega
  exact Wy
theorem suf_L (s p : List UInt8) (hs : s.length < 1099511627776) (hp : p.length < 1099511627776) : callL Tryz.prog (ext11b chk) 136 [.str s, .str p] [] = some (.bool (decide (p.length ≤ s.length) && (s.drop (s.length - p.length) == p)), [.no], []) := by
 refine cK 8 4 Tryz.func136 ?_
 have h1 := suf39_L (chk := chk) s p hs hp
 exact Wy
theorem cut37_L (s p : List UInt8) : callL Tryz.prog (ext11b chk) 167 [.str s, .str p] [] = some (.tuple [.str (if preB p s = true then s.drop p.length else s), .bool (preB p s)], [.no, .no], []) := by
 refine callK (m := 15) (res := [4, 5]) (rs := [.tmp 4, .tmp 5]) rfl Tryz.func167 rfl rfl rfl rfl rfl ?_
 have h1 := pre38_L (chk := chk) s p
 cases h2 : preB p s with
 | false => exact Wy
 | true =>
  have h : p.length ≤ s.length := by
   rw [preB_eq] at h2
   simp only [Bool.and_eq_true, decide_eq_true_eq] at h2
   exact h2.1
  have h' : (p.length : Int) ≤ s.length := by omega
  exact Wy
theorem cut_L (s p : List UInt8) : ∃ r, callL Tryz.prog (ext11b chk) 134 [.str s, .str p] [] = some (.tuple [.str (if preB p s = true then s.drop p.length else s), .bool (preB p s)], r, []) := by
 refine ⟨[.no, .no], ?_⟩
 refine callK (m := 11) (res := [4, 5]) (rs := [.tmp 4, .tmp 5]) rfl Tryz.func134 rfl rfl rfl rfl rfl ?_
 have h1 := cut37_L (chk := chk) s p
 refine Gy ?_
 rfl
end Go.Av
namespace Go.Av
open Go.Proofs
variable [Rk] {chk : List D → Bool}
theorem lowC1_len (fold : Bool) (l : List UInt8) : (lowC1 fold l).length = l.length := by
 unfold lowC1 lowB
 split
 ·simp
 ·rfl
theorem names_L (s : List UInt8) (hs : s.length < 1000000000) : callL Tryz.prog (ext11b chk) 133 [.str s] [] = some (.list ((partsB s []).map .str), [.no], []) := by
 refine cK 5 2 Tryz.func133 ?_
 have h1 : callL Tryz.prog (ext11b chk) 164 [.str s, .func (.func 165) [] []] [] = some (.list ((partsB s []).map .str), [], []) := callL_ext (ext_6 (by decide) (by
  show (if s.length ≤ 4294967296 then _ else _) = _
  rw [if_pos (by omega)]))
 exact Wy
def neverF (op : Int) (t : List UInt8) : Bool :=
 if (op == 1) = true then false else if (op == 2) = true then false else if (op == 4) = true then false else
 if (op == 3) = true then (t.any blankB || t == []) else if (op == 5) = true then t == [] else if (op == 6) = true then t == [] else if (op == 7) = true then t == [] else true
set_option maxHeartbeats 1000000 in
theorem never_L (op : Int) (t : List UInt8) (fold : Bool) (ht : t.length < 1000000000) : callL Tryz.prog (ext11b chk) 131 [condD op t fold] [] = some (.bool (neverF op t), [.no], []) := by
 unfold condD neverF
 refine cK 21 2 Tryz.func131 ?_
 have h1 := blank_L (chk := chk) t ht
 repeat' (first|simp only [*, AVB, AVY, ↓reduceIte, Nat.reduceEqDiff, Nat.reduceLT, Nat.reduceLeDiff, reduceCtorEq, Nat.reduceBEq, String.reduceBEq, Nat.reduceAdd, Nat.reduceSub, Nat.reduceMul, Int.reduceLE, Int.reduceLT, Int.reduceToNat, Int.reduceBEq, Int.reduceBNe, List.zipWith, dIntBin]|refine gw_intro (fun h => ?_) (fun h => ?_) <;> try simp only [AVH] at h)
 all_goals simp_all
def dashF (t v : List UInt8) : Bool := preB t v && (v.drop t.length == [] || (v.drop t.length).getD 0 0 == 45)
def sufF (t v : List UInt8) : Bool := decide (t.length ≤ v.length) && (v.drop (v.length - t.length) == t)
def holdF (op : Int) (t v : List UInt8) : Bool :=
 if (op == 2) = true then v == t else if (op == 3) = true then (partsB v []).contains t else if (op == 4) = true then dashF t v else
 if (op == 5) = true then preB t v else if (op == 6) = true then sufF t v else if (op == 7) = true then hasB t v else true
def holdsF (op : Int) (t : List UInt8) (fold : Bool) (v : List UInt8) : Bool := if neverF op t = true then false else holdF op (lowC1 fold t) (lowC1 fold v)
theorem parts_len : ∀ (s p : List UInt8), (partsB s p).length ≤ s.length + 1
 | [], p => by unfold partsB; split <;> simp
 | x :: r, p => by
  unfold partsB
  have h1 := parts_len r []
  have h2 := parts_len r (p ++ [x])
  split
  ·split
   ·simp; omega
   ·simp; omega
  ·simp; omega
theorem byte45 (x : UInt8) : ((x.toNat : Int) == 45) = (x == 45) := by
 rw [Bool.eq_iff_iff, beq_iff_eq, beq_iff_eq, ← UInt8.toNat_inj]
 have : (45 : UInt8).toNat = 45 := rfl
 omega
set_option maxHeartbeats 2000000 in
theorem holds_L (op : Int) (t : List UInt8) (fold : Bool) (v : List UInt8) (ht : t.length < 900000000) (hv : v.length < 900000000) : callL Tryz.prog (ext11b chk) 101 [condD op t fold, .str v] [] = some (.bool (holdsF op t fold v), [.no], []) := by
 have h1 : callL Tryz.prog (ext11b chk) 131 [.agg [.int .i64 op, .str t, .bool fold]] [] = _ := never_L (chk := chk) op t fold (by omega)
 have h2 : callL Tryz.prog (ext11b chk) 132 [.agg [.int .i64 op, .str t, .bool fold], .str v] [] = some (.tuple [.agg [.int .i64 op, .str (lowC1 fold t), .bool fold], .str (lowC1 fold v)], [.no, .no], []) := plain_L (chk := chk) op t v fold (by omega) (by omega)
 have hv' : (lowC1 fold v).length < 900000000 := by rw [lowC1_len]; exact hv
 have ht' : (lowC1 fold t).length < 900000000 := by rw [lowC1_len]; exact ht
 unfold condD holdsF
 generalize lowC1 fold t = t' at *
 generalize lowC1 fold v = v' at *
 have h3 := names_L (chk := chk) v' (by omega)
 have h4 := has6_L (chk := chk) (partsB v' []) t' (by have := parts_len v' []; omega)
 obtain ⟨rc, h5⟩ := cut_L (chk := chk) v' t'
 have h6 := pre_L (chk := chk) v' t'
 have h7 : callL Tryz.prog (ext11b chk) 136 [.str v', .str t'] [] = some (.bool (sufF t' v'), [.no], []) := suf_L (chk := chk) v' t' (by omega) (by omega)
 have h8 : callL Tryz.prog (ext11b chk) 137 [.str v', .str t'] [] = some (.bool (hasB t' v'), [], []) := callL_ext (ext_6 (by decide) (by
  show (if v'.length < 4294967281 then _ else _) = _
  rw [if_pos (by omega)]))
 unfold holdF dashF
 refine cK 67 4 Tryz.func101 ?_
 generalize List.drop t'.length v' = rest at h5 ⊢
 cases rest with
 | nil =>
  have he : ((([] : List UInt8) == []) = true) := rfl
  repeat' (first|simp only [*, AVB, AVY, ↓reduceIte, Nat.reduceEqDiff, Nat.reduceLT, Nat.reduceLeDiff, reduceCtorEq, Nat.reduceBEq, String.reduceBEq, Nat.reduceAdd, Nat.reduceSub, Nat.reduceMul, Int.reduceLE, Int.reduceLT, Int.reduceToNat, Int.reduceBEq, Int.reduceBNe, List.zipWith, dIntBin]|refine drW_intro (by kernel_rfl) ?_|refine gw_intro (fun h => ?_) (fun h => ?_) <;> try simp only [AVH] at h)
  all_goals try (simp_all; done)
 | cons x r =>
  have he : ((x :: r == []) = false) := rfl
  have hpos : (0 : Int) < ((r.length + 1 : Nat) : Int) := by omega
  have hx := byte45 x
  repeat' (first|simp only [*, AVB, AVY, ↓reduceIte, Nat.reduceEqDiff, Nat.reduceLT, Nat.reduceLeDiff, reduceCtorEq, Nat.reduceBEq, String.reduceBEq, Nat.reduceAdd, Nat.reduceSub, Nat.reduceMul, Int.reduceLE, Int.reduceLT, Int.reduceToNat, Int.reduceBEq, Int.reduceBNe, List.zipWith, dIntBin]|refine drW_intro (by kernel_rfl) ?_|refine gw_intro (fun h => ?_) (fun h => ?_) <;> try simp only [AVH] at h)
  all_goals try (simp_all; done)
end Go.Av
namespace Go.Av
structure Nam where
 has : Bool
 dft : List UInt8
 pre : List (List UInt8)
 sps : List (List UInt8)
def Nam.cs (n : Nam) : List D := [.bool n.has, .str n.dft, .list (n.pre.map .str), .list (n.sps.map .str)]
structure Sf where
 kd : Int
 ns : Int
 pre : List UInt8
 nm : List UInt8
 op : Int
 tx : List UInt8
 fold : Bool
 mark : Int
 a : Int
 b : Int
 of_ : List D
def Sf.d (s : Sf) : D := .agg [.int .i64 s.kd, .int .i64 s.ns, .str s.pre, .str s.nm, .int .i64 s.op, .str s.tx, .bool s.fold, .int .i64 s.mark, .int .i64 s.a, .int .i64 s.b, .list s.of_]
def sf : D → Sf
 | .agg [.int .i64 kd, .int .i64 ns, .str pre, .str nm, .int .i64 op, .str tx, .bool fold, .int .i64 mark, .int .i64 a, .int .i64 b, .list of_] => ⟨kd, ns, pre, nm, op, tx, fold, mark, a, b, of_⟩
 | _ => ⟨0, 0, [], [], 0, [], false, 0, 0, 0, []⟩
theorem sf_d (s : Sf) : sf s.d = s := rfl
def cpD (c : Int) (l : List D) : D := .agg [.int .i64 c, .list l]
def cxD (l : List D) : D := .agg [.list l]
def cpC : D → Int
 | .agg [.int .i64 c, .list _] => c
 | _ => 0
def cpL : D → List D
 | .agg [.int .i64 _, .list l] => l
 | _ => []
def cxL : D → List D
 | .agg [.list l] => l
 | _ => []
def lenB (m : Nat) (l : List D) : Bool := decide (l.length ≤ m)
def cpOk (m : Nat) (S : D → Bool) : D → Bool
 | .agg [.int .i64 _, .list l] => lenB m l && l.all S
 | _ => false
def cxOk (m : Nat) (S : D → Bool) : D → Bool
 | .agg [.list l] => lenB m l && l.all (cpOk m S)
 | _ => false
def lsOk (m : Nat) (S : D → Bool) (l : List D) : Bool := lenB m l && l.all (cxOk m S)
def smOk (m : Nat) : Nat → D → Bool
 | 0, _ => false
 | k + 1, .agg [.int .i64 _, .int .i64 _, .str pre, .str nm, .int .i64 _, .str tx, .bool _, .int .i64 _, .int .i64 _, .int .i64 _, .list of_] =>
  decide (pre.length ≤ m) && decide (nm.length ≤ m) && decide (tx.length ≤ m) && lsOk m (smOk m k) of_
 | _ + 1, _ => false
theorem cpOk_inv {m : Nat} {S : D → Bool} {d : D} (h : cpOk m S d = true) : ∃ c l, d = cpD c l ∧ l.length ≤ m ∧ ∀ s ∈ l, S s = true := by
 unfold cpOk at h
 split at h
 ·rename_i c l
  simp only [lenB, Bool.and_eq_true, decide_eq_true_eq, List.all_eq_true] at h
  exact ⟨c, l, rfl, h.1, h.2⟩
 ·cases h
theorem cxOk_inv {m : Nat} {S : D → Bool} {d : D} (h : cxOk m S d = true) : ∃ l, d = cxD l ∧ l.length ≤ m ∧ ∀ x ∈ l, cpOk m S x = true := by
 unfold cxOk at h
 split at h
 ·rename_i l
  simp only [lenB, Bool.and_eq_true, decide_eq_true_eq, List.all_eq_true] at h
  exact ⟨l, rfl, h.1, h.2⟩
 ·cases h
theorem smOk_inv {m k : Nat} {d : D} (h : smOk m (k + 1) d = true) : d = (sf d).d ∧ (sf d).pre.length ≤ m ∧ (sf d).nm.length ≤ m ∧ (sf d).tx.length ≤ m ∧ lsOk m (smOk m k) (sf d).of_ = true := by
 unfold smOk at h
 split at h
 ·cases ‹_ = _›
 ·rename_i e
  cases e
  simp only [Bool.and_eq_true, decide_eq_true_eq] at h
  exact ⟨rfl, h.1.1.1, h.1.1.2, h.1.2, h.2⟩
 ·cases h
def pseudoF (c : D) : List UInt8 := match (cxL c).getLast? with
 | some x => (match (cpL x).getLast? with
  | some s => if (sf s).kd = 13 then (sf s).nm else []
  | none => [])
 | none => []
def spaceF (n : Nam) (p : List UInt8) : List UInt8 × Bool := match n.pre.findIdx? (· == p) with
 | some i => (n.sps.getD i [], true)
 | none => ([], false)
def inPlF (nm : Nam) (ns : Int) (pre : List UInt8) (space : List UInt8) (attr : Bool) : Bool :=
 if ns = 0 then (if attr = true then space == [] else !nm.has || space == nm.dft)
 else if ns = 1 then true else if ns = 2 then space == []
 else if ns = 3 then (spaceF nm pre).2 && space == (spaceF nm pre).1 else false
def upsI (ns : List Nd) : Nat → Int → List Int
 | 0, _ => []
 | f + 1, n => if (parI ns n).2 = true then (parI ns n).1 :: upsI ns f (parI ns n).1 else []
def rowV (S : D → Int → Bool) (ns : List Nd) : List D → Int → Bool
 | [], _ => false
 | x :: r, n => (cpL x).all (S · n) && (r.isEmpty ||
  if cpC x = 2 then (parI ns n).2 && rowV S ns r (parI ns n).1
  else if cpC x = 3 then (ahdI ns n).2 && rowV S ns r (ahdI ns n).1
  else if cpC x = 1 then (upsI ns (n.toNat + 1) n).any (rowV S ns r)
  else if cpC x = 4 then (rowI ns n).dropLast.any (rowV S ns r)
  else false)
def listV (S : D → Int → Bool) (ns : List Nd) (l : List D) (n : Int) : Bool := l.any fun c => pseudoF c == [] && rowV S ns (cxL c).reverse n
def plainV (ns : List Nd) (n : Int) (name : List UInt8) (op : Int) (tx : List UInt8) : Bool := (valI ns n [] name).2 && holdsF op tx false (valI ns n [] name).1
def hasAB (a b n : Int) : Bool := if n < 1 then false else if a = 0 ∨ n = b then n == b else if decide (b < n) != decide (0 < a) then false else (n - b) % a == 0
def sClass : List UInt8 := [99, 108, 97, 115, 115]
def sId : List UInt8 := [105, 100]
def sHref : List UInt8 := [104, 114, 101, 102]
def sArea : List UInt8 := [97, 114, 101, 97]
def nthV (W : Int → Bool) (ns : List Nd) (a b n : Int) : Bool := W n && hasAB a b ((rowI ns n).countP W : Nat)
def simpleV (ns : List Nd) (nm : Nam) : Nat → D → Int → Bool
 | 0, _, _ => false
 | k + 1, d, n =>
  let s := sf d
  let x := nodeI ns n
  if s.kd = 1 then x.nm == s.nm && inPlF nm s.ns s.pre x.sp false
  else if s.kd = 2 then inPlF nm s.ns s.pre x.sp false
  else if s.kd = 3 then plainV ns n sClass 3 s.nm
  else if s.kd = 4 then plainV ns n sId 2 s.nm
  else if s.kd = 5 then x.at_.any fun a => a.nm == s.nm && (inPlF nm s.ns s.pre a.sp true && holdsF s.op s.tx s.fold a.vl)
  else if s.kd = 6 then !(parI ns n).2
  else if s.kd = 7 then nthV (fun j => s.of_.isEmpty || listV (simpleV ns nm k) ns s.of_ j) ns s.a s.b n
  else if s.kd = 8 ∨ s.kd = 9 then listV (simpleV ns nm k) ns s.of_ n
  else if s.kd = 10 then !listV (simpleV ns nm k) ns s.of_ n
  else if s.kd = 11 then staI ns n s.nm
  else if s.kd = 12 then (x.nm == [97] || x.nm == sArea) && (inPlF nm 0 [] x.sp false && plainV ns n sHref 1 [])
  else s.kd == 13
end Go.Av
namespace Go.Av
def badS (deep : Int) (s : D) : Bool := decide (100 < ((sf s).nm.length : Int)) || (decide (100 < ((sf s).pre.length : Int)) || (decide (100 < ((sf s).tx.length : Int)) || decide (40 < deep)))
def cntX (C : List D → Int) (bad : D → Bool) (most : Int) : List D → Int → Option Int
 | [], n => some n
 | s :: r, n => if n ≤ most then (if bad s = true then none else cntX C bad most r (n + 1 + C (sf s).of_)) else some n
def cntP (C : List D → Int) (bad : D → Bool) (most : Int) : List D → Int → Option Int
 | [], n => some n
 | x :: r, n => if n ≤ most then (cntX C bad most (cpL x) n).bind (cntP C bad most r) else some n
def cntC (C : List D → Int) (bad : D → Bool) (most : Int) : List D → Int → Option Int
 | [], n => some n
 | c :: r, n => if n ≤ most then (cntP C bad most (cxL c) (n + (cxL c).length)).bind (cntC C bad most r) else some n
def cnt (most : Int) : Nat → List D → Int → Int
 | 0, _, _ => 0
 | f + 1, l, deep => (cntC (fun of_ => cnt most f of_ (deep + 1)) (badS deep) most l l.length).getD (most + 1)
section
variable {C : List D → Int} {bad : D → Bool} {most : Int}
theorem cntX_le (hC : ∀ l, 0 ≤ C l) : ∀ (l : List D) (n r : Int), cntX C bad most l n = some r → n ≤ r
 | [], n, r, h => by simp only [cntX, Option.some.injEq] at h; omega
 | s :: l, n, r, h => by
  unfold cntX at h
  split at h
  ·split at h
   ·cases h
   ·have := cntX_le hC l _ _ h
    have := hC (sf s).of_
    omega
  ·simp only [Option.some.injEq] at h; omega
theorem cntX_ok (hC : ∀ l, 0 ≤ C l) : ∀ (l : List D) (n r : Int), cntX C bad most l n = some r → r ≤ most → n + l.length ≤ r ∧ ∀ s ∈ l, bad s = false ∧ n + 1 + C (sf s).of_ ≤ most
 | [], n, r, h, hr => by
  simp only [cntX, Option.some.injEq] at h
  exact ⟨by simp; omega, fun s hs => by simp at hs⟩
 | s :: l, n, r, h, hr => by
  unfold cntX at h
  split at h
  ·split at h
   ·cases h
   ·rename_i hb
    obtain ⟨h1, h2⟩ := cntX_ok hC l _ _ h hr
    have h3 := hC (sf s).of_
    have h4 := cntX_le hC l _ _ h
    refine ⟨by simp only [List.length_cons]; omega, fun t ht => ?_⟩
    rcases List.mem_cons.1 ht with rfl | ht
    ·exact ⟨by simpa using hb, by omega⟩
    ·obtain ⟨h5, h6⟩ := h2 t ht
     exact ⟨h5, by omega⟩
  ·simp only [Option.some.injEq] at h; omega
theorem cntP_le (hC : ∀ l, 0 ≤ C l) : ∀ (l : List D) (n r : Int), cntP C bad most l n = some r → n ≤ r
 | [], n, r, h => by simp only [cntP, Option.some.injEq] at h; omega
 | x :: l, n, r, h => by
  unfold cntP at h
  split at h
  ·obtain ⟨m, h1, h2⟩ := Option.bind_eq_some_iff.1 h
   have := cntX_le hC _ _ _ h1
   have := cntP_le hC l _ _ h2
   omega
  ·simp only [Option.some.injEq] at h; omega
theorem cntP_ok (hC : ∀ l, 0 ≤ C l) : ∀ (l : List D) (n r : Int), 0 ≤ n → cntP C bad most l n = some r → r ≤ most → n ≤ r ∧ ∀ x ∈ l, ((cpL x).length : Int) ≤ most ∧ ∀ s ∈ cpL x, bad s = false ∧ C (sf s).of_ ≤ most
 | [], n, r, h0, h, hr => by
  simp only [cntP, Option.some.injEq] at h
  exact ⟨by omega, fun s hs => by simp at hs⟩
 | x :: l, n, r, h0, h, hr => by
  unfold cntP at h
  split at h
  ·obtain ⟨m, h1, h2⟩ := Option.bind_eq_some_iff.1 h
   have h4 := cntP_le hC l _ _ h2
   obtain ⟨h5, h6⟩ := cntX_ok hC _ _ _ h1 (by omega)
   obtain ⟨h7, h8⟩ := cntP_ok hC l _ _ (by omega) h2 hr
   refine ⟨by omega, fun y hy => ?_⟩
   rcases List.mem_cons.1 hy with rfl | hy
   ·refine ⟨by omega, fun s hs => ?_⟩
    obtain ⟨h9, h10⟩ := h6 s hs
    exact ⟨h9, by omega⟩
   ·exact h8 y hy
  ·simp only [Option.some.injEq] at h; omega
theorem cntC_le (hC : ∀ l, 0 ≤ C l) : ∀ (l : List D) (n r : Int), cntC C bad most l n = some r → n ≤ r
 | [], n, r, h => by simp only [cntC, Option.some.injEq] at h; omega
 | c :: l, n, r, h => by
  unfold cntC at h
  split at h
  ·obtain ⟨m, h1, h2⟩ := Option.bind_eq_some_iff.1 h
   have := cntP_le hC _ _ _ h1
   have := cntC_le hC l _ _ h2
   omega
  ·simp only [Option.some.injEq] at h; omega
theorem cntC_ok (hC : ∀ l, 0 ≤ C l) : ∀ (l : List D) (n r : Int), 0 ≤ n → cntC C bad most l n = some r → r ≤ most → n ≤ r ∧ ∀ c ∈ l, ((cxL c).length : Int) ≤ most ∧ ∀ x ∈ cxL c, ((cpL x).length : Int) ≤ most ∧ ∀ s ∈ cpL x, bad s = false ∧ C (sf s).of_ ≤ most
 | [], n, r, h0, h, hr => by
  simp only [cntC, Option.some.injEq] at h
  exact ⟨by omega, fun s hs => by simp at hs⟩
 | c :: l, n, r, h0, h, hr => by
  unfold cntC at h
  split at h
  ·obtain ⟨m, h1, h2⟩ := Option.bind_eq_some_iff.1 h
   have h4 := cntC_le hC l _ _ h2
   obtain ⟨h5, h6⟩ := cntP_ok hC _ _ _ (by omega) h1 (by omega)
   obtain ⟨h7, h8⟩ := cntC_ok hC l _ _ (by omega) h2 hr
   refine ⟨by omega, fun y hy => ?_⟩
   rcases List.mem_cons.1 hy with rfl | hy
   ·exact ⟨by omega, h6⟩
   ·exact h8 y hy
  ·simp only [Option.some.injEq] at h; omega
end
theorem cnt_nonneg {most : Int} (hm : 0 ≤ most) : ∀ (f : Nat) (l : List D) (deep : Int), 0 ≤ cnt most f l deep
 | 0, _, _ => Int.le_refl _
 | f + 1, l, deep => by
  unfold cnt
  cases h : cntC (fun of_ => cnt most f of_ (deep + 1)) (badS deep) most l l.length with
  | none => simp; omega
  | some r =>
   have := cntC_le (C := fun of_ => cnt most f of_ (deep + 1)) (fun l => cnt_nonneg hm f l _) _ _ _ h
   simp
   omega
theorem cnt_small {most : Int} (hm : 0 ≤ most) (hm2 : most ≤ 100) {m : Nat} : ∀ (f : Nat) (l : List D) (d g : Nat), d + g = 41 → lsOk m (smOk m f) l = true → cnt most (f + 1) l d ≤ most → lsOk 100 (smOk 100 g) l = true
 | f, l, d, g, hd, hk, hc => by
  unfold cnt at hc
  cases h : cntC (fun of_ => cnt most f of_ ((d : Int) + 1)) (badS d) most l l.length with
  | none => rw [h] at hc; simp at hc; omega
  | some r =>
   rw [h] at hc
   simp only [Option.getD_some] at hc
   obtain ⟨h1, h2⟩ := cntC_ok (C := fun of_ => cnt most f of_ ((d : Int) + 1)) (fun l => cnt_nonneg hm f l _) _ _ _ (by omega) h hc
   simp only [lsOk, lenB, Bool.and_eq_true, decide_eq_true_eq, List.all_eq_true] at hk ⊢
   refine ⟨by omega, fun c hcm => ?_⟩
   obtain ⟨xs, rfl, _, hxs⟩ := cxOk_inv (hk.2 c hcm)
   obtain ⟨h3, h4⟩ := h2 _ hcm
   simp only [cxD, cxL] at h3 h4
   simp only [cxOk, cxD, lenB, Bool.and_eq_true, decide_eq_true_eq, List.all_eq_true]
   refine ⟨by omega, fun x hx => ?_⟩
   obtain ⟨k, ss, rfl, _, hss⟩ := cpOk_inv (hxs x hx)
   obtain ⟨h5, h6⟩ := h4 _ hx
   simp only [cpD, cpL] at h5 h6
   simp only [cpOk, cpD, lenB, Bool.and_eq_true, decide_eq_true_eq, List.all_eq_true]
   refine ⟨by omega, fun s hs => ?_⟩
   obtain ⟨h7, h8⟩ := h6 s hs
   simp only [badS, Bool.or_eq_false_iff, decide_eq_false_iff_not] at h7
   obtain ⟨b1, b2, b3, b4⟩ := h7
   match f, hss s hs, h8 with
   | 0, hz, _ => simp [smOk] at hz
   | f + 1, hz, h8 =>
    obtain ⟨e, _, _, _, ho⟩ := smOk_inv hz
    match g, hd with
    | 0, hd => omega
    | g + 1, hd =>
     have h9 := cnt_small hm hm2 f (sf s).of_ (d + 1) g (by omega) ho (by simpa using h8)
     rw [e]
     simp only [smOk, Sf.d, Bool.and_eq_true, decide_eq_true_eq]
     exact ⟨⟨⟨by omega, by omega⟩, by omega⟩, h9⟩
end Go.Av
namespace Go.Av
def standsF (ns : List Nd) (f : Nat) (a b comb : Int) : Bool :=
 if comb = 2 then (parI ns b).2 && (parI ns b).1 == a
 else if comb = 1 then (upsI ns f b).any (· == a)
 else if comb = 3 then (ahdI ns b).2 && (ahdI ns b).1 == a
 else comb == 4 && (rowI ns b).dropLast.any (· == a)
def fitStep (S : D → Int → Bool) (ns : List Nd) (node : Nat) (first : Bool) (fit : List Int) (x : D) : List Int :=
 ((List.range (node + 1)).map (Int.ofNat ·)).filter fun k => kAt ns k.toNat == 1 && (cpL x).all (S · k) && (first || fit.any fun m => standsF ns (k.toNat + 1) m k (cpC x))
def fitAll (S : D → Int → Bool) (ns : List Nd) (node : Nat) : Bool → List Int → List D → List Int
 | _, fit, [] => fit
 | first, fit, x :: r => fitAll S ns node false (fitStep S ns node first fit x) r
def complexV (S : D → Int → Bool) (ns : List Nd) (c : D) (node : Int) (ps : List UInt8) : Bool :=
 elB ns node && (pseudoF c == ps && (!(cxL c).isEmpty && ((fitAll S ns node.toNat true [] (cxL c)).getLast? == some node)))
theorem fitAll_snoc (S : D → Int → Bool) (ns : List Nd) (node : Nat) : ∀ (l : List D) (first : Bool) (fit : List Int) (x : D),
  fitAll S ns node first fit (l ++ [x]) = fitStep S ns node (first && l.isEmpty) (fitAll S ns node first fit l) x
 | [], first, fit, x => by simp [fitAll]
 | y :: r, first, fit, x => by
  have h := fitAll_snoc S ns node r false (fitStep S ns node first fit y) x
  simp only [List.cons_append, fitAll, h, Bool.false_and, List.isEmpty_cons, Bool.and_false]
structure RightT (ns : List Nd) : Prop where
 par : ∀ n, elB ns n = true → (parI ns n).2 = true → elB ns (parI ns n).1 = true ∧ (parI ns n).1 < n
 ahd : ∀ n, elB ns n = true → (ahdI ns n).2 = true → elB ns (ahdI ns n).1 = true ∧ (ahdI ns n).1 < n
 row : ∀ n, elB ns n = true → ∀ a ∈ (rowI ns n).dropLast, elB ns a = true ∧ a < n
theorem ups_el {ns : List Nd} (h : RightT ns) : ∀ (f : Nat) (n : Int), elB ns n = true → ∀ a ∈ upsI ns f n, elB ns a = true ∧ a < n
 | 0, _, _, a, ha => by simp [upsI] at ha
 | f + 1, n, hn, a, ha => by
  unfold upsI at ha
  split at ha
  ·rename_i hp
   obtain ⟨h1, h2⟩ := h.par n hn hp
   rcases List.mem_cons.1 ha with rfl | ha
   ·exact ⟨h1, h2⟩
   ·obtain ⟨h3, h4⟩ := ups_el h f _ h1 a ha
    exact ⟨h3, by omega⟩
  ·simp at ha
theorem elB_nat {ns : List Nd} {n : Int} (h : elB ns n = true) : 0 ≤ n ∧ n < ns.length ∧ kAt ns n.toNat = 1 := by
 unfold elB at h
 simpa [Bool.and_eq_true] using h
theorem mem_range {node : Nat} {k : Int} : k ∈ (List.range (node + 1)).map (Int.ofNat ·) ↔ 0 ≤ k ∧ k ≤ node := by
 simp only [List.mem_map, List.mem_range]
 constructor
 ·rintro ⟨i, hi, rfl⟩
  exact ⟨Int.natCast_nonneg _, by simp; omega⟩
 ·rintro ⟨h0, h1⟩
  exact ⟨k.toNat, by omega, by simp; omega⟩
theorem fit_row {ns : List Nd} (hR : RightT ns) (S : D → Int → Bool) (node : Nat) (hnode : node < ns.length) : ∀ (l : List D), l ≠ [] → ∀ k : Int,
  k ∈ fitAll S ns node true [] l.reverse ↔ (0 ≤ k ∧ k ≤ node ∧ kAt ns k.toNat = 1 ∧ rowV S ns l k = true)
 | [], h, _ => absurd rfl h
 | x :: r, _, k => by
  rw [List.reverse_cons, fitAll_snoc, fitStep, List.mem_filter, mem_range]
  simp only [Bool.and_eq_true, beq_iff_eq, Bool.or_eq_true, Bool.true_and, List.isEmpty_reverse, rowV]
  constructor
  ·rintro ⟨⟨h0, h1⟩, ⟨hk, hs⟩, ht⟩
   refine ⟨h0, h1, hk, hs, ?_⟩
   rcases ht with he | ht
   ·exact .inl he
   ·by_cases he : r = []
    ·exact .inl (by simp [he])
    ·right
     obtain ⟨m, hm, hst⟩ := List.any_eq_true.1 ht
     obtain ⟨_, _, _, hrv⟩ := (fit_row hR S node hnode r he m).1 hm
     unfold standsF at hst
     by_cases c2 : cpC x = 2
     ·rw [if_pos c2] at hst ⊢
      simp only [Bool.and_eq_true, beq_iff_eq] at hst ⊢
      exact ⟨hst.1, by rw [hst.2]; exact hrv⟩
     rw [if_neg c2] at hst ⊢
     by_cases c3 : cpC x = 3
     ·rw [if_neg (by omega), if_pos c3] at hst
      rw [if_pos c3]
      simp only [Bool.and_eq_true, beq_iff_eq] at hst ⊢
      exact ⟨hst.1, by rw [hst.2]; exact hrv⟩
     rw [if_neg c3]
     by_cases c1 : cpC x = 1
     ·rw [if_pos c1] at hst ⊢
      obtain ⟨u, hu, hum⟩ := List.any_eq_true.1 hst
      exact List.any_eq_true.2 ⟨u, hu, by rw [beq_iff_eq.1 hum]; exact hrv⟩
     ·rw [if_neg c1, if_neg c3] at hst
      simp only [Bool.and_eq_true, beq_iff_eq] at hst
      rw [if_neg c1, if_pos hst.1]
      obtain ⟨u, hu, hum⟩ := List.any_eq_true.1 hst.2
      exact List.any_eq_true.2 ⟨u, hu, by rw [beq_iff_eq.1 hum]; exact hrv⟩
  ·rintro ⟨h0, h1, hk, hs, ht⟩
   refine ⟨⟨h0, h1⟩, ⟨hk, hs⟩, ?_⟩
   by_cases he : r = []
   ·exact .inl (by simp [he])
   right
   have ht := ht.resolve_left (by simp [he])
   have hel : elB ns k = true := by
    unfold elB
    simp only [Bool.and_eq_true, decide_eq_true_eq, beq_iff_eq]
    exact ⟨h0, by omega, hk⟩
   have put : ∀ m : Int, elB ns m = true → m < k → rowV S ns r m = true → m ∈ fitAll S ns node true [] r.reverse := fun m hm hlt hv => by
    obtain ⟨a1, a2, a3⟩ := elB_nat hm
    exact (fit_row hR S node hnode r he m).2 ⟨a1, by omega, a3, hv⟩
   unfold standsF
   by_cases c2 : cpC x = 2
   ·rw [if_pos c2] at ht
    simp only [Bool.and_eq_true] at ht
    obtain ⟨b1, b2⟩ := hR.par k hel ht.1
    exact List.any_eq_true.2 ⟨_, put _ b1 b2 ht.2, by rw [if_pos c2]; simp [ht.1]⟩
   rw [if_neg c2] at ht
   by_cases c3 : cpC x = 3
   ·rw [if_pos c3] at ht
    simp only [Bool.and_eq_true] at ht
    obtain ⟨b1, b2⟩ := hR.ahd k hel ht.1
    exact List.any_eq_true.2 ⟨_, put _ b1 b2 ht.2, by rw [if_neg c2, if_neg (by omega), if_pos c3]; simp [ht.1]⟩
   rw [if_neg c3] at ht
   by_cases c1 : cpC x = 1
   ·rw [if_pos c1] at ht
    obtain ⟨u, hu, hv⟩ := List.any_eq_true.1 ht
    obtain ⟨b1, b2⟩ := ups_el hR _ k hel u hu
    exact List.any_eq_true.2 ⟨u, put _ b1 b2 hv, by rw [if_neg c2, if_pos c1]; exact List.any_eq_true.2 ⟨u, hu, by simp⟩⟩
   rw [if_neg c1] at ht
   by_cases c4 : cpC x = 4
   ·rw [if_pos c4] at ht
    obtain ⟨u, hu, hv⟩ := List.any_eq_true.1 ht
    obtain ⟨b1, b2⟩ := hR.row k hel u hu
    refine List.any_eq_true.2 ⟨u, put _ b1 b2 hv, ?_⟩
    rw [if_neg c2, if_neg c1, if_neg c3]
    simp only [c4, beq_self_eq_true, Bool.true_and]
    exact List.any_eq_true.2 ⟨u, hu, by simp⟩
   ·rw [if_neg c4] at ht
    cases ht
end Go.Av
namespace Go.Av
def UpTo (ns ns' : List Nd) (B : Nat) : Prop := ∀ i : Nat, i ≤ B → ns[i]? = ns'[i]?
variable {ns ns' : List Nd} {B : Nat}
theorem UpTo.k (h : UpTo ns ns' B) {i : Nat} (hi : i ≤ B) : kAt ns i = kAt ns' i := by unfold kAt; rw [h i hi]
theorem UpTo.p (h : UpTo ns ns' B) {i : Nat} (hi : i ≤ B) : pAt ns i = pAt ns' i := by unfold pAt; rw [h i hi]
theorem kAt_in {ns : List Nd} {i : Nat} (h : kAt ns i = 1) : i < ns.length := by
 unfold kAt at h
 cases e : ns[i]? with
 | none => rw [e] at h; cases h
 | some x => exact (List.getElem?_eq_some_iff.1 e).1
theorem elB_k {ns : List Nd} {n : Int} : elB ns n = (decide (0 ≤ n) && kAt ns n.toNat == 1) := by
 unfold elB
 rw [Bool.eq_iff_iff]
 simp only [Bool.and_eq_true, decide_eq_true_eq, beq_iff_eq]
 constructor
 ·rintro ⟨a, _, b⟩
  exact ⟨a, b⟩
 ·rintro ⟨a, b⟩
  have := kAt_in b
  exact ⟨a, by omega, b⟩
theorem UpTo.el (h : UpTo ns ns' B) {n : Int} (hn : n ≤ B) : elB ns n = elB ns' n := by
 rw [elB_k, elB_k, h.k (by omega)]
theorem UpTo.rowL (h : UpTo ns ns' B) (key : Int) : ∀ (m : Nat), m ≤ B + 1 → rowL ns key m = Go.Av.rowL ns' key m
 | 0, _ => rfl
 | m + 1, hm => by
  unfold Go.Av.rowL
  rw [h.k (by omega), h.p (by omega), h.rowL key m (by omega)]
theorem UpTo.par (h : UpTo ns ns' B) {n : Int} (hn : n ≤ B) : parI ns n = parI ns' n := by
 unfold parI
 rw [h.el hn, h.p (by omega)]
theorem UpTo.ahd (h : UpTo ns ns' B) {n : Int} (hn : n ≤ B) : ahdI ns n = ahdI ns' n := by
 unfold ahdI
 rw [h.el hn, h.p (by omega), h.rowL _ _ (by omega)]
theorem UpTo.row (h : UpTo ns ns' B) {n : Int} (hn : n ≤ B) : rowI ns n = rowI ns' n := by
 unfold rowI
 rw [h.el hn, h.p (by omega), h.rowL _ _ (by omega)]
theorem UpTo.val (h : UpTo ns ns' B) {n : Int} (hn : n ≤ B) (sp nm : List UInt8) : valI ns n sp nm = valI ns' n sp nm := by
 unfold valI atsAt
 rw [h.el hn, h _ (by omega)]
theorem nodeI_at {ns : List Nd} {n : Int} : nodeI ns n = if 0 ≤ n then (ns[n.toNat]?).getD zeroN else zeroN := by
 unfold nodeI inB'
 by_cases h0 : 0 ≤ n
 ·by_cases h1 : n < ns.length
  ·simp only [h0, h1, decide_true, Bool.and_self, if_true, List.getD_eq_getElem?_getD]
  ·rw [if_neg (by simp [h1]), if_pos h0, List.getElem?_eq_none (by omega)]
   rfl
 ·rw [if_neg (by simp [h0]), if_neg h0]
theorem UpTo.node (h : UpTo ns ns' B) {n : Int} (hn : n ≤ B) : nodeI ns n = nodeI ns' n := by
 rw [nodeI_at, nodeI_at, h _ (by omega)]
theorem UpTo.ups (h : UpTo ns ns' B) (hR : RightT ns) : ∀ (f : Nat) {n : Int}, n ≤ B → elB ns n = true → upsI ns f n = upsI ns' f n
 | 0, _, _, _ => rfl
 | f + 1, n, hn, he => by
  unfold upsI
  rw [← h.par hn]
  split
  ·rename_i hp
   obtain ⟨h1, h2⟩ := hR.par n he hp
   rw [h.ups hR f (by omega) h1]
  ·rfl
theorem all_congr' {α : Type} {l : List α} {f g : α → Bool} (h : ∀ x ∈ l, f x = g x) : l.all f = l.all g := by
 induction l with
 | nil => rfl
 | cons x r ih => rw [List.all_cons, List.all_cons, h x (by simp), ih fun y hy => h y (by simp [hy])]
theorem any_congr' {α : Type} {l : List α} {f g : α → Bool} (h : ∀ x ∈ l, f x = g x) : l.any f = l.any g := by
 induction l with
 | nil => rfl
 | cons x r ih => rw [List.any_cons, List.any_cons, h x (by simp), ih fun y hy => h y (by simp [hy])]
theorem row_congr (h : UpTo ns ns' B) (hR : RightT ns) {S S' : D → Int → Bool} (hS : ∀ d (n : Int), n ≤ B → elB ns n = true → S d n = S' d n) : ∀ (l : List D) (n : Int), n ≤ B → elB ns n = true → rowV S ns l n = rowV S' ns' l n
 | [], _, _, _ => rfl
 | x :: r, n, hn, he => by
  have ih := row_congr h hR hS r
  unfold rowV
  rw [all_congr' (g := (S' · n)) fun d _ => hS d n hn he, ← h.par hn, ← h.ahd hn, ← h.row hn, ← h.ups hR _ hn he]
  have e1 : ((parI ns n).2 && rowV S ns r (parI ns n).1) = ((parI ns n).2 && rowV S' ns' r (parI ns n).1) := by
   cases hp : (parI ns n).2 with
   | false => rfl
   | true =>
    obtain ⟨h1, h2⟩ := hR.par n he hp
    rw [ih _ (by omega) h1]
  have e2 : ((ahdI ns n).2 && rowV S ns r (ahdI ns n).1) = ((ahdI ns n).2 && rowV S' ns' r (ahdI ns n).1) := by
   cases hp : (ahdI ns n).2 with
   | false => rfl
   | true =>
    obtain ⟨h1, h2⟩ := hR.ahd n he hp
    rw [ih _ (by omega) h1]
  have e3 : (upsI ns (n.toNat + 1) n).any (rowV S ns r) = (upsI ns (n.toNat + 1) n).any (rowV S' ns' r) := any_congr' fun a ha => by
   obtain ⟨h1, h2⟩ := ups_el hR _ n he a ha
   exact ih a (by omega) h1
  have e4 : (rowI ns n).dropLast.any (rowV S ns r) = (rowI ns n).dropLast.any (rowV S' ns' r) := any_congr' fun a ha => by
   obtain ⟨h1, h2⟩ := hR.row n he a ha
   exact ih a (by omega) h1
  rw [e1, e2, e3, e4]
theorem row_last {n : Int} (he : elB ns n = true) : ∀ a ∈ rowI ns n, a ∈ (rowI ns n).dropLast ∨ a = n := by
 obtain ⟨h0, _, hk⟩ := elB_nat he
 unfold rowI
 have hs : rowL ns (pAt ns n.toNat) (n.toNat + 1) = rowL ns (pAt ns n.toNat) n.toNat ++ [(n.toNat : Int)] := by rw [rowL, if_pos ⟨hk, rfl⟩]
 rw [if_pos he, hs]
 intro a ha
 rw [List.dropLast_concat]
 rcases List.mem_append.1 ha with h | h
 ·exact .inl h
 ·right
  have := List.mem_singleton.1 h
  omega
end Go.Av
namespace Go.Av
theorem last_filter {p : Int → Bool} {m : Nat} : (((List.range (m + 1)).map (Int.ofNat ·)).filter p).getLast? = some (m : Int) ↔ p m = true := by
 rw [List.range_succ, List.map_append, List.filter_append]
 by_cases h : p m = true
 ·have e : (List.map (Int.ofNat ·) [m]).filter p = [(m : Int)] := by simp [h]
  rw [e, List.getLast?_concat]
  simp [h]
 ·have e : (List.map (Int.ofNat ·) [m]).filter p = [] := by simp [h]
  rw [e, List.append_nil]
  constructor
  ·intro hl
   have hm := List.mem_of_getLast? hl
   obtain ⟨h1, h2⟩ := List.mem_filter.1 hm
   exact h2
  ·intro h'
   exact absurd h' h
theorem complex_row {ns : List Nd} (hR : RightT ns) (S : D → Int → Bool) (c : D) (n : Int) (ps : List UInt8) : complexV S ns c n ps = (elB ns n && (pseudoF c == ps && rowV S ns (cxL c).reverse n)) := by
 unfold complexV
 cases he : elB ns n with
 | false => rfl
 | true =>
  obtain ⟨h0, h1, hk⟩ := elB_nat he
  simp only [Bool.true_and]
  congr 1
  cases hc : cxL c with
  | nil => simp [rowV]
  | cons y r =>
   have hne : (y :: r).reverse ≠ [] := by simp
   have key := fit_row hR S n.toNat (by omega) (y :: r).reverse hne n
   rw [List.reverse_reverse] at key
   have hlast : ∀ l : List D, l ≠ [] → ((fitAll S ns n.toNat true [] l).getLast? = some n ↔ n ∈ fitAll S ns n.toNat true [] l) := by
    intro l hl
    obtain ⟨l', x, rfl⟩ : ∃ l' x, l = l' ++ [x] := ⟨l.dropLast, l.getLast hl, (List.dropLast_concat_getLast hl).symm⟩
    rw [fitAll_snoc, fitStep]
    have hn : ((n.toNat : Nat) : Int) = n := by omega
    have := @last_filter (fun k => kAt ns k.toNat == 1 && (cpL x).all (S · k) && (true && l'.isEmpty || (fitAll S ns n.toNat true [] l').any fun m => standsF ns (k.toNat + 1) m k (cpC x))) n.toNat
    rw [hn] at this
    rw [this, List.mem_filter, mem_range]
    constructor
    ·intro h
     exact ⟨⟨h0, by omega⟩, h⟩
    ·intro h
     exact h.2
   rw [Bool.eq_iff_iff]
   simp only [List.isEmpty_cons, Bool.not_false, Bool.true_and, beq_iff_eq]
   rw [hlast _ (by simp), key]
   constructor
   ·intro h
    exact h.2.2.2
   ·intro h
    exact ⟨h0, by omega, hk, h⟩
def rlistV (S : D → Int → Bool) (ns : List Nd) (l : List D) (n : Int) (ps : List UInt8) : Bool := l.any fun c => complexV S ns c n ps
def nthGo (W : Int → Bool) : List Int → Nat → Bool → Nat × Bool
 | [], p, b => (p, b)
 | x :: r, p, _ => nthGo W r (if W x = true then p + 1 else p) (W x)
theorem nthGo_snoc (W : Int → Bool) : ∀ (l : List Int) (x : Int) (p : Nat) (b : Bool), nthGo W (l ++ [x]) p b = (p + (l ++ [x]).countP W, W x)
 | [], x, p, b => by
  simp only [List.nil_append, nthGo, List.countP_cons, List.countP_nil]
  split <;> simp_all
 | y :: r, x, p, b => by
  simp only [List.cons_append, nthGo, nthGo_snoc W r x, List.countP_cons]
  split <;> simp_all <;> omega
theorem rlist_eq {ns : List Nd} (hR : RightT ns) {S S' : D → Int → Bool} (hS : ∀ d (n : Int), n ≤ ns.length → elB ns n = true → S d n = S' d n) (l : List D) (n : Int) (he : elB ns n = true) : rlistV S ns l n [] = listV S' ns l n := by
 obtain ⟨h0, h1, hk⟩ := elB_nat he
 unfold rlistV listV
 refine any_congr' fun c _ => ?_
 rw [complex_row hR, he, Bool.true_and, row_congr (B := ns.length) (fun _ _ => rfl) hR hS _ n (by omega) he]
end Go.Av
namespace Go.Av
theorem rowL_mem {ns : List Nd} {key : Int} : ∀ {m : Nat} {a : Int}, a ∈ rowL ns key m → 0 ≤ a ∧ a < m ∧ kAt ns a.toNat = 1
 | 0, a, h => by simp [rowL] at h
 | m + 1, a, h => by
  rw [rowL] at h
  split at h
  ·rename_i hk
   rcases List.mem_append.1 h with h | h
   ·obtain ⟨h1, h2, h3⟩ := rowL_mem h
    exact ⟨h1, by omega, h3⟩
   ·obtain rfl := List.mem_singleton.1 h
    exact ⟨by omega, by omega, by simpa using hk.1⟩
  ·obtain ⟨h1, h2, h3⟩ := rowL_mem h
   exact ⟨h1, by omega, h3⟩
theorem right_of {ns : List Nd} (h : ∀ (j : Nat) (n : Nd), ns[j]? = some n → -1 ≤ n.p ∧ n.p < (ns.take j).length ∧ (0 ≤ n.p → kindAt (ns.take j) n.p = 1)) : RightT ns := by
 refine ⟨fun n he hp => ?_, fun n he hp => ?_, fun n he a ha => ?_⟩
 ·obtain ⟨h0, h1, hk⟩ := elB_nat he
  have hx : ns[n.toNat]? = some ns[n.toNat] := List.getElem?_eq_getElem (by omega)
  obtain ⟨a1, a2, a3⟩ := h _ _ hx
  have hpp : pAt ns n.toNat = (ns[n.toNat]'(by omega)).p := by unfold pAt; rw [hx]
  unfold parI at hp ⊢
  split at hp
  ·rename_i hc
   rw [if_pos hc]
   rw [hpp] at hc ⊢
   have a4 := a3 hc.2
   rw [List.length_take] at a2
   refine ⟨?_, by omega⟩
   rw [elB_k]
   simp only [hc.2, decide_true, Bool.true_and, beq_iff_eq]
   unfold kindAt at a4
   unfold kAt
   rw [List.getElem?_take_of_lt (by omega)] at a4
   exact a4
  ·cases hp
 ·obtain ⟨h0, h1, hk⟩ := elB_nat he
  unfold ahdI at hp ⊢
  rw [if_pos he] at hp ⊢
  split at hp
  ·rename_i a ha
   obtain ⟨b1, b2, b3⟩ := rowL_mem (List.mem_of_getLast? ha)
   exact ⟨by rw [elB_k]; simp [b1, b3], by show a < n; omega⟩
  ·cases hp
 ·obtain ⟨h0, h1, hk⟩ := elB_nat he
  unfold rowI at ha
  have hs : rowL ns (pAt ns n.toNat) (n.toNat + 1) = rowL ns (pAt ns n.toNat) n.toNat ++ [(n.toNat : Int)] := by rw [rowL, if_pos ⟨hk, rfl⟩]
  rw [if_pos he, hs, List.dropLast_concat] at ha
  obtain ⟨b1, b2, b3⟩ := rowL_mem ha
  exact ⟨by rw [elB_k]; simp [b1, b3], by omega⟩
end Go.Av
namespace Go.Av
theorem rowV_eq {S S' : D → Int → Bool} {ns : List Nd} : ∀ (l : List D), (∀ x ∈ l, ∀ s ∈ cpL x, ∀ n, S s n = S' s n) → ∀ n, rowV S ns l n = rowV S' ns l n
 | [], _, _ => rfl
 | x :: r, h, n => by
  have ih := rowV_eq (ns := ns) r (fun y hy => h y (List.mem_cons_of_mem _ hy))
  have hf : rowV S ns r = rowV S' ns r := funext ih
  have ha : (cpL x).all (S · n) = (cpL x).all (S' · n) := all_congr' fun s hs => h x (List.mem_cons_self ..) s hs n
  simp only [rowV, ha, hf]
theorem listV_eq {S S' : D → Int → Bool} {ns : List Nd} {l : List D} (h : ∀ c ∈ l, ∀ x ∈ cxL c, ∀ s ∈ cpL x, ∀ n, S s n = S' s n) (n : Int) : listV S ns l n = listV S' ns l n := by
 unfold listV
 refine any_congr' fun c hc => ?_
 rw [rowV_eq (cxL c).reverse (fun x hx => h c hc x (List.mem_reverse.1 hx))]
theorem lsOk_mem {m : Nat} {S : D → Bool} {l : List D} (h : lsOk m S l = true) : l.length ≤ m ∧ ∀ c ∈ l, cxOk m S c = true := by
 unfold lsOk lenB at h
 simpa [List.all_eq_true] using h
theorem lsOk_s {m : Nat} {S : D → Bool} {l : List D} (h : lsOk m S l = true) : ∀ c ∈ l, ∀ x ∈ cxL c, ∀ s ∈ cpL x, S s = true := by
 intro c hc x hx s hs
 obtain ⟨l1, rfl, _, h1⟩ := cxOk_inv ((lsOk_mem h).2 c hc)
 obtain ⟨k, l2, rfl, _, h2⟩ := cpOk_inv (h1 x hx)
 exact h2 s hs
theorem sm_fuel {ns : List Nd} {nm : Nam} {m : Nat} : ∀ (k : Nat) (d : D), smOk m k d = true → ∀ (j : Nat), k ≤ j → ∀ n, simpleV ns nm j d n = simpleV ns nm k d n
 | 0, d, h, _, _, _ => by simp [smOk] at h
 | k + 1, d, h, 0, hj, _ => absurd hj (by omega)
 | k + 1, d, h, j + 1, hj, n => by
  obtain ⟨_, _, _, _, hl⟩ := smOk_inv h
  have hL : listV (simpleV ns nm j) ns (sf d).of_ = listV (simpleV ns nm k) ns (sf d).of_ := funext fun n => listV_eq (fun c hc x hx s hs n => sm_fuel k s (lsOk_s hl c hc x hx s hs) j (by omega) n) n
  simp only [simpleV, hL]
theorem smOk_up {m : Nat} : ∀ (k : Nat) (d : D), smOk m k d = true → ∀ j, k ≤ j → smOk m j d = true
 | 0, d, h, _, _ => by simp [smOk] at h
 | k + 1, d, h, 0, hj => absurd hj (by omega)
 | k + 1, d, h, j + 1, hj => by
  obtain ⟨e, h1, h2, h3, h4⟩ := smOk_inv h
  rw [e]
  show (decide ((sf d).pre.length ≤ m) && decide ((sf d).nm.length ≤ m) && decide ((sf d).tx.length ≤ m) && lsOk m (smOk m j) (sf d).of_) = true
  simp only [Bool.and_eq_true, decide_eq_true_eq]
  refine ⟨⟨⟨h1, h2⟩, h3⟩, ?_⟩
  obtain ⟨g1, g2⟩ := lsOk_mem h4
  simp only [lsOk, lenB, Bool.and_eq_true, decide_eq_true_eq, List.all_eq_true]
  refine ⟨g1, fun c hc => ?_⟩
  obtain ⟨l1, rfl, f1, f2⟩ := cxOk_inv (g2 c hc)
  simp only [cxD, cxOk, lenB, Bool.and_eq_true, decide_eq_true_eq, List.all_eq_true]
  refine ⟨f1, fun x hx => ?_⟩
  obtain ⟨y, l2, rfl, f3, f4⟩ := cpOk_inv (f2 x hx)
  simp only [cpD, cpOk, lenB, Bool.and_eq_true, decide_eq_true_eq, List.all_eq_true]
  exact ⟨f3, fun s hs => smOk_up k s (f4 s hs) j (by omega)⟩
def sV (ns : List Nd) (nm : Nam) : D → Int → Bool := simpleV ns nm 50
def stepV (ns : List Nd) (nm : Nam) (L : List D → Int → Bool) (d : D) (n : Int) : Bool :=
 let s := sf d
 let x := nodeI ns n
 if s.kd = 1 then x.nm == s.nm && inPlF nm s.ns s.pre x.sp false
 else if s.kd = 2 then inPlF nm s.ns s.pre x.sp false
 else if s.kd = 3 then plainV ns n sClass 3 s.nm
 else if s.kd = 4 then plainV ns n sId 2 s.nm
 else if s.kd = 5 then x.at_.any fun a => a.nm == s.nm && (inPlF nm s.ns s.pre a.sp true && holdsF s.op s.tx s.fold a.vl)
 else if s.kd = 6 then !(parI ns n).2
 else if s.kd = 7 then nthV (fun j => s.of_.isEmpty || L s.of_ j) ns s.a s.b n
 else if s.kd = 8 ∨ s.kd = 9 then L s.of_ n
 else if s.kd = 10 then !L s.of_ n
 else if s.kd = 11 then staI ns n s.nm
 else if s.kd = 12 then (x.nm == [97] || x.nm == sArea) && (inPlF nm 0 [] x.sp false && plainV ns n sHref 1 [])
 else s.kd == 13
theorem sV_step {ns : List Nd} {nm : Nam} {m k : Nat} {d : D} (h : smOk m (k + 1) d = true) (hk : k + 1 ≤ 50) (n : Int) : sV ns nm d n = stepV ns nm (listV (sV ns nm) ns) d n := by
 have h1 : sV ns nm d n = simpleV ns nm (k + 1) d n := sm_fuel (k + 1) d h 50 hk n
 rw [h1]
 obtain ⟨_, _, _, _, hl⟩ := smOk_inv h
 have hL : listV (simpleV ns nm k) ns (sf d).of_ = listV (sV ns nm) ns (sf d).of_ := funext fun n => listV_eq (fun c hc x hx s hs n => (sm_fuel k s (lsOk_s hl c hc x hx s hs) 50 (by omega) n).symm) n
 simp only [simpleV, stepV, hL]
end Go.Av
namespace Go.Proofs.YtcogfddcdpgpkaaGreatDoor
open Go.Proofs Go.RowKit Go.Shelf Go.Av
attribute [local go_sem] Oper.semAt_some
def parV (x : Int × Bool) : Value := .tuple #[.int .i64 x.1, .bool x.2]
theorem above_in (F : Fence) (n : Nat) (h17 : F.fn 81) (hro : F.round = none) (vs : Array Value) (k : Int) (w : World) (hvs : vs.size = 5) (hone : ∀ v ∈ vs, v.oneCell' = true) :
  CallsIn F n Tryz.prog 81 #[.agg vs, .int .i64 k] w fun e w' => e = .returned (.func (.func 112) #[] #[.pointer (some ⟨w.heap.size, 0, none⟩), .pointer (some ⟨w.heap.size + 1, 0, none⟩)]) ∧ w' = (w.alloc (.cells vs 92)).alloc (.cells #[.int .i64 k] 3) := by
 refine callsIn_of_wp Tryz.func81 rfl h17 ?_ hro
 simp only [Tryz.ntmps81, List.size_toArray, List.length_cons, List.length_nil, Nat.reduceAdd, Nat.reduceSub, Array.replicate_succ, Array.replicate_zero, List.push_toArray, List.append_toArray, List.nil_append, List.cons_append]
 gi_wp2
 go_ret
 exact ⟨rfl, rfl⟩
def bOf : Value → Nat → Nat
 | .bool true, n => n + 1
 | _, _ => 0
theorem upto_get {α : Type} {U : List α} {k : Nat} {x : α} {r : List α} (h : U.drop k = x :: r) : ∃ hk : k < U.length, U.get ⟨k, hk⟩ = x ∧ U.drop (k + 1) = r := by
 have hk : k < U.length := by
  rcases Nat.lt_or_ge k U.length with h1 | h1
  ·exact h1
  ·rw [List.drop_eq_nil_of_le h1] at h; cases h
 rw [List.drop_eq_getElem_cons hk] at h
 injection h with h1 h2
 exact ⟨hk, h1, h2⟩
theorem ups_zero {ns : List Nd} {m : Int} {f : Nat} (h : (parI ns m).2 = true) : upsI ns (f + 1) m = (parI ns m).1 :: upsI ns f (parI ns m).1 := by
 rw [upsI, if_pos h]
theorem ups_no {ns : List Nd} {m : Int} {f : Nat} (h : (parI ns m).2 = false) : upsI ns (f + 1) m = [] := by
 rw [upsI, if_neg (by rw [h]; decide)]
set_option maxRecDepth 100000 in
set_option maxHeartbeats 4000000 in
theorem above1_in (n : Nat) (hn : 1 ≤ n) (l Be Bn n₀ : Nat) (ns : List Nd) (hR : RightT ns) (k0 : Int) (hk0 : elB ns k0 = true) (U : List Int) (hU : U = upsI ns (k0.toNat + 1) k0) (p : Value) (J Jx : List (Fin U.length) → World → Prop)
  (W : World) (hpar : ∀ (m : Int) (W' : World), Below n₀ W W' → Calls Tryz.prog 66 #[p, .int .i64 m] W' fun e w' => e = .returned (parV (parI ns m)) ∧ Below W'.heap.size W' w')
  (hJ : AbidesFrom W.heap.size J) (hJb : ∀ pre X Y, J pre X → W.heap.size ≤ X.heap.size → Below X.heap.size X Y → J pre Y)
  (hY : ∀ pre x W, J pre W → pre.length < U.length → YieldAt Fence.wide (n - 1) Tryz.prog l #[.int .i64 (U.get x)] W fun e W' =>
   (e = .returned (.bool true) ∧ J (pre ++ [x]) W' ∧ Below n₀ W W') ∨ (e = .returned (.bool false) ∧ Jx (pre ++ [x]) W'))
  (hn₀ : n₀ ≤ W.heap.size) (hBe : Be < n₀) (hBn : Bn < n₀)
  (hce : W.cell? ⟨Be, 0, none⟩ = some p) (hcn : W.cell? ⟨Bn, 0, none⟩ = some (.int .i64 k0)) (hp1 : p.oneCell' = true) (h0 : J [] W) :
  CallsIn Fence.wide n Tryz.prog 112 #[.func (.yield l) #[] #[], .pointer (some ⟨Be, 0, none⟩), .pointer (some ⟨Bn, 0, none⟩)] W fun e W' => (∃ v, e = .returned v) ∧
   ((∃ ys, ys = List.finRange U.length ∧ J ys W') ∨ (∃ pre, (∃ k, k ≤ U.length ∧ pre = upto U.length k) ∧ Jx pre W')) := by
 refine callsIn_of_wp Tryz.func112 rfl trivial ?_ rfl
 simp only [Tryz.ntmps112, List.size_toArray, List.length_cons, List.length_nil, Nat.reduceAdd, Nat.reduceSub, Array.replicate_succ, Array.replicate_zero, List.push_toArray, List.append_toArray, List.nil_append, List.cons_append]
 have hp0 := hpar k0 W (Below.refl _ _)
 unfold parV at hp0
 gi_wp2_with (refine ⟨trivial, ?_⟩; gi_at_call 66; refine (callsIn_wide.2 hp0).mono ?_; rintro e w' ⟨rfl, hb0⟩)
 have hb0' : Below n₀ W w' := hb0.mono hn₀
 have hJ0 : J [] w' := hJb _ _ _ h0 (Nat.le_refl _) hb0
 have hs0 := hb0.size
 gi_loopw [4, 5] (fun a b wr => ∃ (k : Nat) (m : Int) (f : Nat), k ≤ U.length ∧ U.drop k = upsI ns (f + 1) m ∧ m.toNat ≤ f ∧ elB ns m = true ∧ a = .int .i64 (parI ns m).1 ∧ b = .bool (parI ns m).2 ∧ J (upto U.length k) wr ∧ Below n₀ W wr ∧ W.heap.size ≤ wr.heap.size)
  (fun a b _ => bOf b (intOf a).toNat)
 case atStart => exact ⟨0, k0, k0.toNat, Nat.zero_le _, by rw [List.drop_zero]; exact hU, Nat.le_refl _, hk0, rfl, rfl, hJ0, hb0', hs0⟩
 case round =>
  obtain ⟨k, m, f, hk, hd, hf, hm, rfl, rfl, hJk, hbk, hsk⟩ := hrel
  cases hq : (parI ns m).2 with
  | false =>
   rw [ups_no hq] at hd
   have hkl : k = U.length := by
    have := congrArg List.length hd
    simp at this
    omega
   subst hkl
   rw [upto_all] at hJk
   gi_wp2
   go_end0
   exact ⟨⟨_, rfl⟩, .inl ⟨_, rfl, hJk⟩⟩
  | true =>
   rw [ups_zero hq] at hd
   obtain ⟨hlt, hx, hd'⟩ := upto_get hd
   obtain ⟨h3, h4⟩ := hR.par m hm hq
   obtain ⟨g0, g1, _⟩ := elB_nat hm
   obtain ⟨e0, e1, _⟩ := elB_nat h3
   obtain ⟨f', rfl⟩ : ∃ f', f = f' + 1 := ⟨f - 1, by omega⟩
   obtain ⟨fn, tmps, assign, body, hy, hRr⟩ := hY (upto U.length k) ⟨k, hlt⟩ wr hJk (by rw [upto_length hk]; exact hlt)
   rw [hx] at hy
   gi_wp2
   refine hRr.mono ?_
   rintro e W3 (⟨rfl, hJ3, hb3⟩ | ⟨rfl, hJx3⟩)
   ·have hp3 := hpar (parI ns m).1 W3 (hbk.trans hb3)
    unfold parV at hp3
    have hs3 : W.heap.size ≤ W3.heap.size := Nat.le_trans hsk hb3.size
    have hce3 : W3.cell? ⟨Be, 0, none⟩ = some p := ((hbk.trans hb3).cell (p := ⟨Be, 0, none⟩) hBe).trans hce
    gi_wp2_with (refine ⟨trivial, ?_⟩; gi_at_call 66; refine (callsIn_wide.2 hp3).mono ?_; rintro e w4 ⟨rfl, hb4⟩)
    go_roundw
    case rel => exact ⟨k + 1, (parI ns m).1, f', hlt, hd', by omega, h3, rfl, rfl, by rw [upto_succ hlt]; exact hJb _ _ _ hJ3 hs3 hb4, (hbk.trans hb3).trans (hb4.mono (Nat.le_trans hn₀ hs3)), Nat.le_trans hs3 hb4.size⟩
    case measure =>
     cases hq' : (parI ns (parI ns m).1).2 with
     | false => simp [bOf]
     | true =>
      obtain ⟨h5, h6⟩ := hR.par _ h3 hq'
      have := (elB_nat h5).1
      simp [bOf, intOf]
      omega
   ·gi_wp2
    refine bodyPost_ret (results_none rfl _ _ _) rfl ?_
    exact ⟨⟨_, rfl⟩, .inr ⟨_, ⟨k + 1, by omega, (upto_succ hlt).symm⟩, hJx3⟩⟩
theorem above_stops (n : Nat) (hn : 1 ≤ n) (Be Bn n₀ : Nat) (ns : List Nd) (hR : RightT ns) (k0 : Int) (hk0 : elB ns k0 = true) (U : List Int) (hU : U = upsI ns (k0.toNat + 1) k0) (p : Value)
  (w : World) (hpar : ∀ (m : Int) (W' : World), Below n₀ w W' → Calls Tryz.prog 66 #[p, .int .i64 m] W' fun e w' => e = .returned (parV (parI ns m)) ∧ Below W'.heap.size W' w')
  (hn₀ : n₀ ≤ w.heap.size) (hBe : Be < n₀) (hBn : Bn < n₀)
  (hce : w.cell? ⟨Be, 0, none⟩ = some p) (hcn : w.cell? ⟨Bn, 0, none⟩ = some (.int .i64 k0)) (hp1 : p.oneCell' = true) :
  SeqStopsK Fence.wide n Tryz.prog 112 #[.pointer (some ⟨Be, 0, none⟩), .pointer (some ⟨Bn, 0, none⟩)] (fun x : Fin U.length => #[.int .i64 (U.get x)]) (Below n₀) (fun ys => ys = List.finRange U.length) (fun pre => ∃ k, k ≤ U.length ∧ pre = upto U.length k) U.length w := fun l J Jx W hW hJ _ hY h0 =>
 above1_in n hn l Be Bn n₀ ns hR k0 hk0 U hU p J Jx W (fun m W' hb => hpar m W' ((hW.mono hn₀).trans hb)) hJ (fun pre X Y hX hs hb => hJ _ X Y none hX ⟨hb.os, hb.tape, hb.output, hb.size, fun k hk _ => hb.block k hk⟩ (fun r e => by cases e)) hY (Nat.le_trans hn₀ hW.size) hBe hBn
  ((hW.cell (p := ⟨Be, 0, none⟩) (Nat.lt_of_lt_of_le hBe hn₀)).trans hce) ((hW.cell (p := ⟨Bn, 0, none⟩) (Nat.lt_of_lt_of_le hBn hn₀)).trans hcn) hp1 h0
end Go.Proofs.YtcogfddcdpgpkaaGreatDoor
