/- The evaluator, in one text: over any program; no conditions but those that each law names. -/
import Derived.Test.YtaghfmgeccapbaaGreatDoorAvb
import Derived.Test.YtaghfmgeccapbaaGreatDoorAvsc
import Derived.Test.YtaghfmgeccapbaaGreatDoorAvse
import Derived.Test.YtaghfmgeccapbaaGreatDoorAvsf
import Derived.Test.YtaghfmgeccapbaaGreatDoorRows
import Derived.Test.YtaghfmgeccapbaaGreatDoorTie
import Derived.ChangeSame
import Derived.ChangeVars
import Derived.JoinedOf
import Derived.LaidLaws
import Derived.LaidHandle
import Derived.Stop.Joined
import Derived.SevenTiedAt
set_option linter.unusedSimpArgs false
set_option linter.unusedVariables false
set_option linter.unusedSectionVars false
namespace Go.Av
open Go.RowKit
variable [Gs]
def exQ (P : Program) (rs : List ResultVar) (m : Nat) (Y : D × List Room × List Bx → Prop) : X → St → Prop := fun x s => ∃ R, Y R ∧ endQ P rs m R x s
theorem exQ_i {P : Program} {rs : List ResultVar} {m : Nat} {Y : D × List Room × List Bx → Prop} {x : X} {s : St} (R : D × List Room × List Bx) (hY : Y R) (h : endQ P rs m R x s) : exQ P rs m Y x s := ⟨R, hY, h⟩
theorem callX {P : Program} {ext : Call} {f : FuncId} {fn : Func} {c : Code} {args : List D} {pbs : List Bx} {Y : D × List Room × List Bx → Prop} {m : Nat} {res : List Tmp} {rs : List ResultVar} (hx : ext f args pbs = none) (hf : P.funcs[f]? = some fn) (hb : fn.body = some c)
    (hm : max args.length fn.ntmps = m) (hres : resTmps fn = res) (hrs : fn.results.toList = rs) (hn : noTwice res = true) (h : goX P ext m res (exQ P rs pbs.length Y) [.code c] .normal (entry args pbs)) : ∃ R, callL P ext f args pbs = some R ∧ Y R :=
  callKx hx hf hb hm hres hrs hn h
theorem callL_ok {P : Program} (hP : Fine P) {ext : Call} (h : CallOK P ext) : CallOK P (callL P ext) := fun f args pbs d r pbs' e => by
  obtain ⟨N, hN⟩ := callL_aev e
  exact aev_sound hP h N _ _ _ _ _ _ hN
end Go.Av
set_option maxRecDepth 100000
namespace Go.Av
open Go.Proofs
variable [Rk] {chk : List D → Bool}
theorem exQ_1 {P : Program} {rs : List ResultVar} {Y : D × List Room × List Bx → Prop} {s : St} {x : X} (d : D) (r : List Room) (cells : List D) (hY : ∀ rm, Y (d, r, [⟨0, cells, rm⟩])) (h : endQ P rs 1 (d, r, [⟨0, cells, ((s.box 1000000).getD default).rooms⟩]) x s) : exQ P rs 1 Y x s :=
  exQ_i _ (hY _) h
theorem try_L (es es' : List D) (n n' : Int) (A B : D) (b : Bool) (rm : List Room) (hw : callL Tryz.prog (ext11b chk) 24 [.list es'] [] = some (.list es', [], [])) (ht : callL Tryz.prog (ext11b chk) 7 [.list es', .int .i64 n', .fix A 0, .fix B 0] [] = some (.bool b, [.no], [])) :
    ∃ rm', callL Tryz.prog (ext11b chk) 41 [.ptr 1000000 0 0, .list es', .int .i64 n'] [⟨0, [.list es, .int .i64 n, .func (.func 7) [] [.fix A 0, .fix B 0]], rm⟩] =
      some (.bool b, [.no], [⟨0, [.list (if b = true then es' else es), .int .i64 (if b = true then n' else n), .func (.func 7) [] [.fix A 0, .fix B 0]], rm'⟩]) := by
  cases b with
  | true =>
    rw [if_pos rfl, if_pos rfl]
    obtain ⟨R, h1, rm', rfl⟩ := callX (Y := fun R => ∃ rm', R = (D.bool true, [Room.no], [(⟨0, [.list es', .int .i64 n', .func (.func 7) [] [.fix A 0, .fix B 0]], rm'⟩ : Bx)])) (P := Tryz.prog) (ext := ext11b chk) (args := [.ptr 1000000 0 0, .list es', .int .i64 n']) (pbs := [⟨0, [.list es, .int .i64 n, .func (.func 7) [] [.fix A 0, .fix B 0]], rm⟩]) (f := 41) (m := 24) (res := [6]) (rs := [.tmp 6]) rfl Tryz.func41 rfl rfl rfl rfl rfl (by
      refine Qy ?_
      refine exQ_1 _ _ _ (fun rm => ⟨rm, rfl⟩) ?_
      refine Gy ?_
      rfl)
    exact ⟨rm', h1⟩
  | false =>
    rw [if_neg (by decide), if_neg (by decide)]
    obtain ⟨R, h1, rm', rfl⟩ := callX (Y := fun R => ∃ rm', R = (D.bool false, [Room.no], [(⟨0, [.list es, .int .i64 n, .func (.func 7) [] [.fix A 0, .fix B 0]], rm'⟩ : Bx)])) (P := Tryz.prog) (ext := ext11b chk) (args := [.ptr 1000000 0 0, .list es', .int .i64 n']) (pbs := [⟨0, [.list es, .int .i64 n, .func (.func 7) [] [.fix A 0, .fix B 0]], rm⟩]) (f := 41) (m := 24) (res := [6]) (rs := [.tmp 6]) rfl Tryz.func41 rfl rfl rfl rfl rfl (by
      refine Qy ?_
      refine exQ_1 _ _ _ (fun rm => ⟨rm, rfl⟩) ?_
      refine Gy ?_
      rfl)
    exact ⟨rm', h1⟩
end Go.Av
namespace Go.Av
open Go.Proofs
variable [Rk] {chk : List D → Bool}
theorem test_L {ns : List Nd} {nm : Nam} {l : List D} {k : Nat} (hk : k ≤ 45) (hS : SmallD ns) (hR : RightT ns) (hn : nm.ok) (hl : lsOk 100 (smN k) l = true) (n : Int) :
    callL Tryz.prog (ext11b chk) 7 [.list (ns.map Nd.d), .int .i64 n, .fix (.agg [.list l]) 0, .fix (.agg nm.cs) 0] [] = some (.bool (selV ns nm l n []), [.no], []) := by
  have h := rselA_L (chk := chk) hk hS hR hn hl n []
  unfold Nam.cs at h ⊢
  generalize selV ns nm l n [] = b at *
  generalize ns.map Nd.d = L at *
  generalize nm.pre.map D.str = L1 at *
  generalize nm.sps.map D.str = L2 at *
  clear hk hS hR hn hl
  exact cWy 13 6 Tryz.func7
end Go.Av
namespace Go.Av
open Go.Proofs
variable [Rk] {chk : List D → Bool}
theorem drop_rev (k : Nat) (f : Nat → Th → Option Th) (T : Th → Bool) (s : Th × Bool) : passT T ((List.range (k + 1)).reverse.map f) s = passT T ((List.range k).reverse.map f) (attT T (f k) s) := by
  rw [List.range_succ, List.reverse_append, List.reverse_singleton, List.singleton_append, List.map_cons, passT]
theorem att_no {T : Th → Bool} {c : Th → Option Th} {s : Th} {dn : Bool} (h : c s = none) : attT T c (s, dn) = (s, dn) := by unfold attT; simp only [h]
theorem att_t {T : Th → Bool} {c : Th → Option Th} {s s' : Th} {dn : Bool} (h : c s = some s') (ht : T s' = true) : attT T c (s, dn) = (s', true) := by unfold attT; simp only [h, ht, if_true]
theorem att_f {T : Th → Bool} {c : Th → Option Th} {s s' : Th} {dn : Bool} (h : c s = some s') (ht : T s' = false) : attT T c (s, dn) = (s, dn) := by unfold attT; simp [h, ht]
def TstOK (chk : List D → Bool) (A B : D) (T : Th → Bool) : Prop := ∀ s : Th, InvT s → callL Tryz.prog (ext11b chk) 7 [.list (s.1.map Nd.d), .int .i64 s.2, .fix A 0, .fix B 0] [] = some (.bool (T s), [.no], [])
theorem whole_S {ns : List Nd} (hS : SmallD ns) : callL Tryz.prog (ext11b chk) 24 [.list (ns.map Nd.d)] [] = some (.list (ns.map Nd.d), [], []) := callL_ext (ext_wh rfl rfl (if_pos (docOk_d hS)))
theorem try_T {A B : D} {T : Th → Bool} (HT : TstOK chk A B T) (s s' : Th) (h : InvT s') (rm : List Room) :
    ∃ rm', callL Tryz.prog (ext11b chk) 41 [.ptr (pid 0) 0 0, .list (s'.1.map Nd.d), .int .i64 s'.2] [⟨0, [.list (s.1.map Nd.d), .int .i64 s.2, .func (.func 7) [] [.fix A 0, .fix B 0]], rm⟩] =
      some (.bool (T s'), [.no], [⟨0, [.list ((if T s' = true then s' else s).1.map Nd.d), .int .i64 (if T s' = true then s' else s).2, .func (.func 7) [] [.fix A 0, .fix B 0]], rm'⟩]) := by
  obtain ⟨rm', h1⟩ := try_L (chk := chk) (s.1.map Nd.d) (s'.1.map Nd.d) s.2 s'.2 A B (T s') rm (whole_S h.small) (HT s' h)
  refine ⟨rm', h1.trans ?_⟩
  cases T s' <;> rfl
theorem try_OK {A B : D} {T : Th → Bool} (HT : TstOK chk A B T) : TryOK (callL Tryz.prog (ext11b chk)) T (.func (.func 7) [] [.fix A 0, .fix B 0]) := fun s s' h h' => by
  obtain ⟨rm', h1⟩ := try_T HT s s' h' []
  rw [h1]
  rfl
def slotQ (s : St) (j : Nat) : Nat := match s.slot j with | .int _ i => (i + 1).toNat | _ => 0
theorem Zp {p : Prop} (h : p := by simp only [slotQ, *, AVB, AVY, ↓reduceIte, Nat.reduceEqDiff, Nat.reduceLT, Nat.reduceLeDiff, reduceCtorEq, Nat.reduceBEq, String.reduceBEq, Nat.reduceAdd, Nat.reduceSub, Nat.reduceMul, Int.reduceLE, Int.reduceLT, Int.reduceToNat, Int.reduceBEq, Int.reduceBNe, List.zipWith, dIntBin]; omega) : p := h
set_option maxHeartbeats 4000000 in
theorem nodes_L {A B : D} {T : Th → Bool} (HT : TstOK chk A B T) (s : Th) (hI : InvT s) (rm : List Room) :
    ∃ rm', callL Tryz.prog (ext11b chk) 25 [.ptr (pid 0) 0 0] [(⟨0, [.list (s.1.map Nd.d), .int .i64 s.2, .func (.func 7) [] [.fix A 0, .fix B 0]], rm⟩ : Bx)] = some (.bool (passT T (dropCs s) (s, false)).2, [.no], [(⟨0, [.list ((passT T (dropCs s) (s, false)).1.1.map Nd.d), .int .i64 (passT T (dropCs s) (s, false)).1.2, .func (.func 7) [] [.fix A 0, .fix B 0]], rm'⟩ : Bx)]) := by
  obtain ⟨RS, hRS⟩ : ∃ R, Hd (R = passT T (dropCs s) (s, false)) := ⟨_, rfl⟩
  rw [← (show RS = passT T (dropCs s) (s, false) from hRS)]
  have hl := hI.small.1
  have lN := lenM s.1 Nd.d
  have hw : IntKind.i64.wrap ((s.1.length : Int) - 1) = (s.1.length : Int) - 1 := wrap64 _ (by omega) (by omega)
  obtain ⟨R, h1, rm', rfl⟩ := callX (Y := fun R => ∃ rm', R = (D.bool RS.2, [Room.no], [(⟨0, [.list (RS.1.1.map Nd.d), .int .i64 RS.1.2, .func (.func 7) [] [.fix A 0, .fix B 0]], rm'⟩ : Bx)])) (P := Tryz.prog) (ext := ext11b chk) (args := [.ptr 1000000 0 0]) (pbs := [(⟨0, [.list (s.1.map Nd.d), .int .i64 s.2, .func (.func 7) [] [.fix A 0, .fix B 0]], rm⟩ : Bx)]) (f := 25) (m := 45) (res := [2]) (rs := [.tmp 2]) rfl Tryz.func25 rfl rfl rfl rfl rfl (by
    have HI := Hd.mk hI
    clear hI hl
    refine Gy ?_
    refine loopH (fun st => ∃ (k : Nat) (dn : Bool) (sx : Th) (rx : List Room), k ≤ sx.1.length ∧ InvT sx ∧ st.slot 3 = .int .i64 ((k : Int) - 1) ∧ st.slot 2 = .bool dn ∧ st.room 2 = [] ∧ st.slot 0 = .ptr 1000000 0 0 ∧ st.box 1000000 = some ((⟨0, [.list (sx.1.map Nd.d), .int .i64 sx.2, .func (.func 7) [] [.fix A 0, .fix B 0]], rx⟩ : Bx)) ∧ Hd (RS = passT T ((List.range k).reverse.map dropC) (sx, dn))) (fun st => slotQ st 3) ?_ ?_
    · refine ⟨s.1.length, false, s, rm, Nat.le_refl _, HI, Wy, Wy, Wy, Wy, Wy, hRS⟩
    · rintro st K ⟨k, dn, sx, rx, hk, hIx, g3, g2, gr, g0, gb, hO⟩ hn hx hr
      cases k with
      | zero =>
        have hO' : RS = (sx, dn) := hO
        subst hO'
        have g3' : st.slot 3 = .int .i64 (-1) := g3
        clear g3 hO hn hr hIx hk
        refine Gy ?_
        refine hx _ _ ?_
        refine Gy ?_
        refine exQ_1 _ _ _ (fun rm => ⟨rm, rfl⟩) ?_
        refine Gy ?_
        show [(st.box 1000000).getD default] = _
        rw [gb]
        rfl
      | succ k =>
        have e1 : ((k + 1 : Nat) : Int) - 1 = (k : Int) := by omega
        rw [e1] at g3
        have hO' : RS = passT T ((List.range k).reverse.map dropC) (attT T (dropC k) (sx, dn)) := (show RS = _ from hO).trans (drop_rev k dropC T (sx, dn))
        have hlx := hIx.small.1
        have hkl : k < sx.1.length := hk
        have hwD : IntKind.i64.wrap ((k : Int) - 1) = (k : Int) - 1 := wrap64 _ (by omega) (by omega)
        by_cases c1 : (k : Int) = sx.2
        · have c1' : ((k : Int) != sx.2) = false := by simp [c1]
          have hd : dropC k sx = none := by unfold dropC; rw [if_neg (fun h => h.2.1 c1)]
          rw [att_no hd] at hO'
          have HO := Hd.mk hO'
          have HX := Hd.mk hIx
          have HK : Hd (k ≤ sx.1.length) := Nat.le_of_lt hkl
          clear hO hO' hx hr hd c1 hk hkl hIx hlx e1
          refine Qy ?_
          exact hn _ ⟨k, dn, sx, rx, HK, HX, L, L, L, L, L, HO⟩ Zp
        · have c1' : ((k : Int) != sx.2) = true := by simp [c1]
          have hdr := drop_L (chk := chk) sx.1 k hkl hlx
          cases hm : mayF sx.1 k with
          | false =>
            have hd : dropC k sx = none := by unfold dropC; rw [if_neg (fun h => by rw [hm] at h; cases h.2.2)]
            rw [att_no hd] at hO'
            rw [hm] at hdr
            have HO := Hd.mk hO'
            have HX := Hd.mk hIx
            have HK : Hd (k ≤ sx.1.length) := Nat.le_of_lt hkl
            clear hO hO' hx hr hd c1 hk hkl hIx hlx e1 hm
            refine Qy ?_
            exact hn _ ⟨k, dn, sx, rx, HK, HX, L, L, L, L, L, HO⟩ Zp
          | true =>
            rw [hm] at hdr
            have hd : dropC k sx = some (withoutN sx.1 k, movI sx.2 k) := by unfold dropC; rw [if_pos ⟨hkl, c1, hm⟩]
            have hI' : InvT (withoutN sx.1 k, movI sx.2 k) := (drop_less hIx hd).1
            have hwo := without_L (chk := chk) sx.1 k hIx.small (par_bound hIx.right hlx) hkl
            have hmv : callL Tryz.prog (ext11b chk) 43 [.int .i64 sx.2, .int .i64 (k : Int)] [] = some (.int .i64 (movI sx.2 k), [.no], []) := by
              obtain ⟨j, nj, hj, hjn, _⟩ := hIx.elem
              have := (List.getElem?_eq_some_iff.1 hjn).1
              exact moved_L (chk := chk) sx.2 (k : Int) (by omega) (by omega)
            obtain ⟨rt, htry⟩ := try_T HT sx (withoutN sx.1 k, movI sx.2 k) hI' rx
            have hwl : k ≤ (withoutN sx.1 k).length := by
              unfold withoutN
              rw [List.length_map, List.length_eraseIdx, if_pos hkl]
              omega
            cases hT : T (withoutN sx.1 k, movI sx.2 k) with
            | true =>
              rw [att_t hd hT] at hO'
              rw [hT, if_pos rfl] at htry
              dsimp only at htry
              have HO := Hd.mk hO'
              have HX := Hd.mk hI'
              have HK : Hd (k ≤ (withoutN sx.1 k, movI sx.2 k).1.length) := hwl
              clear hO hO' hx hr hd c1 hk hkl hIx hlx e1 hm hI' hT hwl
              refine Qy ?_
              exact hn _ ⟨k, true, (withoutN sx.1 k, movI sx.2 k), rt, HK, HX, L, L, L, L, L, HO⟩ Zp
            | false =>
              rw [att_f hd hT] at hO'
              rw [hT, if_neg (by decide)] at htry
              have HO := Hd.mk hO'
              have HX := Hd.mk hIx
              have HK : Hd (k ≤ sx.1.length) := Nat.le_of_lt hkl
              clear hO hO' hx hr hd c1 hk hkl hIx hlx e1 hm hI' hT hwl
              refine Qy ?_
              exact hn _ ⟨k, dn, sx, rt, HK, HX, L, L, L, L, L, HO⟩ Zp)
  exact ⟨rm', h1⟩
end Go.Av
namespace Go.Av
variable [Rk]
def aF (s : Th) (i k : Nat) : List Th := (List.range k).filterMap fun k => noAC i k s
def stF (s : Th) (i k : Nat) : List Th := (List.range k).filterMap fun k => noSC i k s
def partF (s : Th) (i : Nat) : List Th := (dropC i s).toList ++ (aF s i (lenA s.1 i) ++ stF s i (lenS s.1 i))
def preF (s : Th) (i : Nat) : List Th := (List.range i).flatMap (partF s)
theorem preF_all (s : Th) : preF s s.1.length = smallF s := rfl
theorem preF_succ (s : Th) (i : Nat) : preF s (i + 1) = preF s i ++ (dropC i s).toList ++ aF s i (lenA s.1 i) ++ stF s i (lenS s.1 i) := by
  unfold preF
  rw [List.range_succ, List.flatMap_append, List.flatMap_singleton]
  unfold partF
  simp only [List.append_assoc]
theorem aF_succ {s x : Th} {i k : Nat} (h : noAC i k s = some x) : aF s i (k + 1) = aF s i k ++ [x] := by
  unfold aF
  rw [List.range_succ, List.filterMap_append]
  simp [h]
theorem stF_succ {s x : Th} {i k : Nat} (h : noSC i k s = some x) : stF s i (k + 1) = stF s i k ++ [x] := by
  unfold stF
  rw [List.range_succ, List.filterMap_append]
  simp [h]
theorem aF_len (s : Th) (i k : Nat) : (aF s i k).length ≤ k := by
  have := List.length_filterMap_le (fun k => noAC i k s) (List.range k)
  simpa [aF] using this
theorem stF_len (s : Th) (i k : Nat) : (stF s i k).length ≤ k := by
  have := List.length_filterMap_le (fun k => noSC i k s) (List.range k)
  simpa [stF] using this
theorem drop_len (s : Th) (i : Nat) : ((dropC i s).toList).length ≤ 1 := by cases dropC i s <;> simp
theorem preF_len {s : Th} (hA : ∀ i, lenA s.1 i ≤ 1000) (hS : ∀ i, lenS s.1 i ≤ 1000) : ∀ i, (preF s i).length ≤ i * 2001
  | 0 => Nat.le_refl _
  | i + 1 => by
    have h0 := preF_len hA hS i
    have h1 := aF_len s i (lenA s.1 i)
    have h2 := stF_len s i (lenS s.1 i)
    have h3 := drop_len s i
    have h4 := hA i
    have h5 := hS i
    rw [preF_succ]
    simp only [List.length_append]
    omega
theorem lenA_sum : ∀ (l : List Nd) (i : Nat), lenA l i + lenS l i ≤ sumN l
  | [], i => by simp [lenA, lenS, sumN]
  | x :: r, 0 => by
    have e1 : lenA (x :: r) 0 = x.at_.length := rfl
    have e2 : lenS (x :: r) 0 = x.st.length := rfl
    rw [e1, e2, sumN]
    unfold cntN
    omega
  | x :: r, i + 1 => by
    have := lenA_sum r i
    have e1 : lenA (x :: r) (i + 1) = lenA r i := by unfold lenA; rw [List.getElem?_cons_succ]
    have e2 : lenS (x :: r) (i + 1) = lenS r i := by unfold lenS; rw [List.getElem?_cons_succ]
    rw [e1, e2, sumN]
    omega
theorem flat_set {j : Nat} (hj : j < 7) (x : D) : ∀ (l : List D) (i : Nat) (cs : List D), (∀ e ∈ l, (dcells e).length = 7) → l[i]? = some (.agg cs) →
    (flat l).take (i * 7 + j) ++ [x] ++ (flat l).drop (i * 7 + j + 1) = flat (l.set i (.agg (cs.set j x)))
  | [], i, cs, _, h => by simp at h
  | e :: r, 0, cs, hl, h => by
    simp only [List.getElem?_cons_zero, Option.some.injEq] at h
    subst h
    have h7 : cs.length = 7 := hl (.agg cs) (List.mem_cons_self ..)
    have e1 : flat (.agg cs :: r) = cs ++ flat r := by simp [flat, dcells]
    have e2 : flat ((D.agg cs :: r).set 0 (.agg (cs.set j x))) = cs.set j x ++ flat r := by simp [flat, dcells]
    rw [e1, e2, Nat.zero_mul, Nat.zero_add, List.take_append_of_le_length (by omega), List.drop_append_of_le_length (by omega), List.set_eq_take_append_cons_drop, if_pos (by omega)]
    simp
  | e :: r, i + 1, cs, hl, h => by
    have ih := flat_set hj x r i cs (fun y hy => hl y (List.mem_cons_of_mem _ hy)) (by simpa using h)
    have h7 := hl e (List.mem_cons_self ..)
    have e1 : flat (e :: r) = dcells e ++ flat r := by simp [flat]
    have e2 : flat ((e :: r).set (i + 1) (.agg (cs.set j x))) = dcells e ++ flat (r.set i (.agg (cs.set j x))) := by simp [flat]
    have n1 : (i + 1) * 7 + j = 7 + (i * 7 + j) := by omega
    have n2 : (i + 1) * 7 + j + 1 = 7 + (i * 7 + j + 1) := by omega
    rw [e1, e2, n1, ← ih, List.take_append, List.drop_append, h7]
    have n3 : 7 + (i * 7 + j) - 7 = i * 7 + j := by omega
    have n4 : 7 + (i * 7 + j) + 1 - 7 = i * 7 + j + 1 := by omega
    rw [n3, n4, List.take_of_length_le (by omega), List.drop_eq_nil_of_le (by omega)]
    simp
theorem rowList_fl7 : ∀ (l : List D), (∀ e ∈ l, ∃ cs, e = .agg cs ∧ cs.length = 7) → rowList 7 true l.length (flat l) = l
  | [], _ => rfl
  | e :: r, h => by
    obtain ⟨cs, rfl, h7⟩ := h _ (List.mem_cons_self ..)
    have e1 : flat (.agg cs :: r) = cs ++ flat r := by simp [flat, dcells]
    rw [List.length_cons, rowList, e1, List.take_append_of_le_length (by omega), List.drop_append_of_le_length (by omega), List.take_of_length_le (by omega), List.drop_eq_nil_of_le (by omega), List.nil_append, rowList_fl7 r fun y hy => h y (List.mem_cons_of_mem _ hy)]
    rfl
theorem nd_agg (n : Nd) : ∃ cs, n.d = .agg cs ∧ cs.length = 7 := ⟨_, rfl, rfl⟩
theorem nds_agg (ns : List Nd) : ∀ e ∈ ns.map Nd.d, ∃ cs, e = .agg cs ∧ cs.length = 7 := fun e he => by
  obtain ⟨n, _, rfl⟩ := List.mem_map.1 he
  exact nd_agg n
theorem nds_7 (ns : List Nd) : ∀ e ∈ ns.map Nd.d, (dcells e).length = 7 := fun e he => by
  obtain ⟨n, _, rfl⟩ := List.mem_map.1 he
  rfl
theorem fl_len (ns : List Nd) : (flat (ns.map Nd.d)).length = ns.length * 7 := by rw [flat_len (nds_7 ns), List.length_map]
theorem rowA_set {ns : List Nd} {i : Nat} {n : Nd} (hn : ns[i]? = some n) (k : Nat) :
    rowList 7 true (ns.map Nd.d).length ((flat (ns.map Nd.d)).take (i * 7 + 4) ++ [.list ((n.at_.map At.d).take k ++ (n.at_.map At.d).drop (k + 1))] ++ (flat (ns.map Nd.d)).drop (i * 7 + 4 + 1)) = (ns.set i (n.noA k)).map Nd.d := by
  have hd : (ns.map Nd.d)[i]? = some (.agg [.int .i64 n.p, .int .i64 n.k, .str n.sp, .str n.nm, .list (n.at_.map At.d), .list (n.st.map .str), .str n.tx]) := by rw [List.getElem?_map, hn]; rfl
  rw [flat_set (by decide) _ _ i _ (nds_7 ns) hd]
  have e : (ns.map Nd.d).set i (.agg ([.int .i64 n.p, .int .i64 n.k, .str n.sp, .str n.nm, .list (n.at_.map At.d), .list (n.st.map .str), .str n.tx].set 4 (.list ((n.at_.map At.d).take k ++ (n.at_.map At.d).drop (k + 1))))) = (ns.set i (n.noA k)).map Nd.d := by
    rw [List.map_set, ← List.eraseIdx_eq_take_drop_succ, erase_map]
    rfl
  rw [e, show (ns.map Nd.d).length = ((ns.set i (n.noA k)).map Nd.d).length by simp]
  exact rowList_fl7 _ (nds_agg _)
theorem rowS_set {ns : List Nd} {i : Nat} {n : Nd} (hn : ns[i]? = some n) (k : Nat) :
    rowList 7 true (ns.map Nd.d).length ((flat (ns.map Nd.d)).take (i * 7 + 5) ++ [.list ((n.st.map D.str).take k ++ (n.st.map D.str).drop (k + 1))] ++ (flat (ns.map Nd.d)).drop (i * 7 + 5 + 1)) = (ns.set i (n.noS k)).map Nd.d := by
  have hd : (ns.map Nd.d)[i]? = some (.agg [.int .i64 n.p, .int .i64 n.k, .str n.sp, .str n.nm, .list (n.at_.map At.d), .list (n.st.map .str), .str n.tx]) := by rw [List.getElem?_map, hn]; rfl
  rw [flat_set (by decide) _ _ i _ (nds_7 ns) hd]
  have e : (ns.map Nd.d).set i (.agg ([.int .i64 n.p, .int .i64 n.k, .str n.sp, .str n.nm, .list (n.at_.map At.d), .list (n.st.map .str), .str n.tx].set 5 (.list ((n.st.map D.str).take k ++ (n.st.map D.str).drop (k + 1))))) = (ns.set i (n.noS k)).map Nd.d := by
    rw [List.map_set, ← List.eraseIdx_eq_take_drop_succ, erase_map]
    rfl
  rw [e, show (ns.map Nd.d).length = ((ns.set i (n.noS k)).map Nd.d).length by simp]
  exact rowList_fl7 _ (nds_agg _)
theorem cells_l7 {ns : List Nd} {i j : Nat} (hi : i < ns.length) (hj : j < 7) (x : D) : i * 7 + j + 1 ≤ (flat (ns.map Nd.d)).length ∧ (ns.map Nd.d).length * 7 ≤ ((flat (ns.map Nd.d)).take (i * 7 + j) ++ [x] ++ (flat (ns.map Nd.d)).drop (i * 7 + j + 1)).length := by
  have h := fl_len ns
  refine ⟨by omega, ?_⟩
  simp only [List.length_append, List.length_take, List.length_drop, List.length_map, List.length_singleton, h]
  omega
def dX (X : List Th) : List D := X.map fun x => D.list (x.1.map Nd.d)
def pX (X : List Th) : List D := X.map fun x => D.int .i64 x.2
def rD (X : List Th) : Room := if X = [] then .full else .own 22
def rP (X : List Th) : Room := if X = [] then .full else .own 3
theorem rD_ok (X : List Th) : rD X = .full ∨ rD X = .own 22 ∨ rD X = .fresh := by
  unfold rD
  split
  · exact .inl rfl
  · exact .inr (.inl rfl)
theorem rP_ok (X : List Th) : rP X = .full ∨ rP X = .own 3 ∨ rP X = .fresh := by
  unfold rP
  split
  · exact .inl rfl
  · exact .inr (.inl rfl)
theorem rD_app (X : List Th) (x : Th) : rD (X ++ [x]) = .own 22 := by simp [rD]
theorem rP_app (X : List Th) (x : Th) : rP (X ++ [x]) = .own 3 := by simp [rP]
theorem dX_app (X : List Th) (x : Th) : dX (X ++ [x]) = dX X ++ [.list (x.1.map Nd.d)] := by simp [dX]
theorem pX_app (X : List Th) (x : Th) : pX (X ++ [x]) = pX X ++ [.int .i64 x.2] := by simp [pX]
theorem szd (X : List Th) : szOk 1 (dX X) = true := by cases X <;> rfl
theorem szp (X : List Th) : szOk 1 (pX X) = true := by cases X <;> rfl
theorem dX_len (X : List Th) : (dX X).length = X.length := by simp [dX]
theorem pX_len (X : List Th) : (pX X).length = X.length := by simp [pX]
theorem sz3 (l : List At) : szOk 3 (l.map At.d) = true := by cases l <;> rfl
theorem sz3t (l : List At) (k : Nat) : szOk 3 ((l.map At.d).take k) = true := by rw [← List.map_take]; exact sz3 _
theorem sz3d (l : List At) (k : Nat) : szOk 3 ((l.map At.d).drop k) = true := by rw [← List.map_drop]; exact sz3 _
theorem sz1s (l : List (List UInt8)) : szOk 1 (l.map D.str) = true := by cases l <;> rfl
theorem sz1t (l : List (List UInt8)) (k : Nat) : szOk 1 ((l.map D.str).take k) = true := by rw [← List.map_take]; exact sz1s _
theorem sz1d (l : List (List UInt8)) (k : Nat) : szOk 1 ((l.map D.str).drop k) = true := by rw [← List.map_drop]; exact sz1s _
theorem sz7 (ns : List Nd) : szOk 7 (ns.map Nd.d) = true := by cases ns <;> rfl
end Go.Av
namespace Go.Av
open Go.Proofs
variable [Rk] {chk : List D → Bool}
theorem joinL {P : Program} {ext : Call} {m : Nat} {res : List Tmp} {G : Prop} {Q : X → St → Prop} {k : List It} {b : Code} (I1 : St → Prop) (first : Hd (∀ st, I1 st → loopAt P ext m res Q k b st) → G) (rest : ∀ st, I1 st → loopAt P ext m res Q k b st) : G := first rest
theorem lenA_at {ns : List Nd} {i : Nat} {x : Nd} (h : ns[i]? = some x) : lenA ns i = x.at_.length := by unfold lenA; rw [h]
theorem lenS_at {ns : List Nd} {i : Nat} {x : Nd} (h : ns[i]? = some x) : lenS ns i = x.st.length := by unfold lenS; rw [h]
theorem noA_at {ns : List Nd} {n : Int} {i k : Nat} {x : Nd} (h : ns[i]? = some x) (hk : k < x.at_.length) : noAC i k (ns, n) = some (ns.set i (x.noA k), n) := by
  unfold noAC
  dsimp only
  rw [h]
  exact if_pos hk
theorem noS_at {ns : List Nd} {n : Int} {i k : Nat} {x : Nd} (h : ns[i]? = some x) (hk : k < x.st.length) : noSC i k (ns, n) = some (ns.set i (x.noS k), n) := by
  unfold noSC
  dsimp only
  rw [h]
  exact if_pos hk
set_option maxHeartbeats 16000000 in
theorem smaller_L (ns : List Nd) (n : Int) (hl : ns.length ≤ 1000) (hA : ∀ i, lenA ns i ≤ 1000) (hS : ∀ i, lenS ns i ≤ 1000) (hp : ∀ x ∈ ns, x.p ≤ 1000000) (n0 : -1000000 ≤ n) (n1 : n ≤ 1000000) :
    callL Tryz.prog (ext11b chk) 13 [.list (ns.map Nd.d), .int .i64 n] [] = some (.tuple [.list (dX (smallF (ns, n))), .list (pX (smallF (ns, n)))], [rD (smallF (ns, n)), rP (smallF (ns, n))], []) := by
  have lN := lenM ns Nd.d
  have HL := Hd.mk hl
  have HA := Hd.mk hA
  have HS := Hd.mk hS
  have HP := Hd.mk hp
  have HN := Hd.mk (And.intro n0 n1)
  clear hl hA hS hp n0 n1
  have z1 : dX (preF (ns, n) 0) = [] := rfl
  have z2 : pX (preF (ns, n) 0) = [] := rfl
  have z3 : rD (preF (ns, n) 0) = .full := rfl
  have z4 : rP (preF (ns, n) 0) = .full := rfl
  obtain ⟨R1, hR1⟩ : ∃ R, Hd (R = smallF (ns, n)) := ⟨_, rfl⟩
  rw [← (show R1 = smallF (ns, n) from hR1)]
  refine callK (m := 134) (res := [4, 5]) (rs := [.tmp 4, .tmp 5]) rfl Tryz.func13 rfl rfl rfl rfl rfl ?_
  refine Gy ?_
  refine loopH (fun st => ∃ i : Nat, i ≤ ns.length ∧ st.slot 8 = .int .i64 (i : Nat) ∧ st.slot 0 = .list (ns.map Nd.d) ∧ st.slot 1 = .int .i64 n ∧ st.slot 6 = .list (dX (preF (ns, n) i)) ∧ st.room 6 = [rD (preF (ns, n) i)] ∧ st.slot 7 = .list (pX (preF (ns, n) i)) ∧ st.room 7 = [rP (preF (ns, n) i)]) (fun st => ns.length - slotI st 8) ?_ ?_
  · exact ⟨0, Nat.zero_le _, Iy, Wy, Wy, Wy, Wy, Wy, Wy⟩
  clear z1 z2 z3 z4
  rintro st K ⟨i, hi, g8, g0, g1, g6, r6, g7, r7⟩ hN hX hr
  have hl : ns.length ≤ 1000 := HL
  have hA : ∀ i, lenA ns i ≤ 1000 := HA
  have hS : ∀ i, lenS ns i ≤ 1000 := HS
  have hb0 := preF_len (s := (ns, n)) hA hS i
  by_cases h : i < ns.length
  · have g9 : (i : Int) < ns.length := by omega
    have hw := wrapS i (by omega)
    obtain ⟨x, hx1⟩ := some_at h
    have hbd := getD_map (f := Nd.d) hx1
    rw [ndat] at hbd
    have hlA : x.at_.length ≤ 1000 := by rw [← lenA_at hx1]; exact hA i
    have hlS : x.st.length ≤ 1000 := by rw [← lenS_at hx1]; exact hS i
    have hnx := preF_succ (ns, n) i
    rw [show lenA (ns, n).1 i = x.at_.length from lenA_at hx1, show lenS (ns, n).1 i = x.st.length from lenS_at hx1] at hnx
    have hdl := drop_len (ns, n) i
    obtain ⟨X0, hX0⟩ : ∃ X0, X0 = preF (ns, n) i := ⟨_, rfl⟩
    rw [← hX0] at g6 g7 r6 r7 hnx hb0
    have HX1 := Hd.mk hx1
    have HBD := Hd.mk hbd
    have HNX := Hd.mk hnx
    have HDL := Hd.mk hdl
    have HB0 := Hd.mk hb0
    have HLL := Hd.mk hl
    have HLA := Hd.mk hlA
    have HLS := Hd.mk hlS
    have HH := Hd.mk h
    have HW := Hd.mk hw
    clear hX0 hr hX hA hS hx1 hbd hnx hdl hb0 hl hlA hlS h hw
    apply joinL (P := Tryz.prog) (ext := ext11b chk) (m := 134) (res := [4, 5]) (fun st => st.slot 10 = .int .i64 0 ∧ st.slot 8 = .int .i64 (i : Nat) ∧ st.slot 0 = .list (ns.map Nd.d) ∧ st.slot 1 = .int .i64 n ∧ st.slot 6 = .list (dX (X0 ++ (dropC i (ns, n)).toList)) ∧ st.room 6 = [rD (X0 ++ (dropC i (ns, n)).toList)] ∧ st.slot 7 = .list (pX (X0 ++ (dropC i (ns, n)).toList)) ∧ st.room 7 = [rP (X0 ++ (dropC i (ns, n)).toList)])
    · intro rest
      have h : i < ns.length := HH
      have hl : ns.length ≤ 1000 := HLL
      have hb0 : X0.length ≤ i * 2001 := HB0
      have hmay := may_L (chk := chk) ns i h (by omega)
      by_cases c1 : (i : Int) = n
      · have c1' : ((i : Int) != n) = false := by simp [c1]
        have hd : dropC i (ns, n) = none := by unfold dropC; rw [if_neg (fun h => h.2.1 c1)]
        rw [hd, Option.toList_none, List.append_nil] at rest
        clear hmay c1 hd h hl hb0
        refine Qy ?_
        exact rest _ ⟨Wy, Wy, Wy, Wy, Wy, Wy, Wy, Wy⟩
      · have c1' : ((i : Int) != n) = true := by simp [c1]
        cases hm : mayF ns i with
        | false =>
          rw [hm] at hmay
          have hd : dropC i (ns, n) = none := by unfold dropC; rw [if_neg (fun h => by rw [hm] at h; cases h.2.2)]
          rw [hd, Option.toList_none, List.append_nil] at rest
          clear c1 hd h hm hl hb0
          refine Qy ?_
          exact rest _ ⟨Wy, Wy, Wy, Wy, Wy, Wy, Wy, Wy⟩
        | true =>
          rw [hm] at hmay
          have hd : dropC i (ns, n) = some (withoutN ns i, movI n i) := by unfold dropC; rw [if_pos ⟨h, c1, hm⟩]
          rw [hd, Option.toList_some] at rest
          have hwi := rwith_L (chk := chk) ns i (by omega) HP
          generalize withoutN ns i = W at *
          by_cases c2 : (i : Int) < n
          · have hv : movI n i = n - 1 := by unfold movI; rw [if_pos c2]
            have hwn : IntKind.i64.wrap (n - 1) = n - 1 := by
              obtain ⟨n0, n1⟩ : -1000000 ≤ n ∧ n ≤ 1000000 := HN
              exact wrap64 _ (by omega) (by omega)
            rw [hv] at rest
            have ra := rD_ok X0
            have rb := rP_ok X0
            have sa := szd X0
            have sb := szp X0
            have ea : dX (X0 ++ [(W, n - 1)]) = dX X0 ++ [.list (W.map Nd.d)] := dX_app _ _
            have eb : pX (X0 ++ [(W, n - 1)]) = pX X0 ++ [.int .i64 (n - 1)] := pX_app _ _
            have ec := rD_app X0 (W, n - 1)
            have ed := rP_app X0 (W, n - 1)
            have la : (dX X0).length + 1 ≤ 1073741824 := by rw [dX_len]; omega
            have lb : (pX X0).length + 1 ≤ 1073741824 := by rw [pX_len]; omega
            clear c1 hd h hm hv hl hb0
            refine Qy ?_
            exact rest _ ⟨Wy, Wy, Wy, Wy, Wy, Wy, Wy, Wy⟩
          · have hv : movI n i = n := by unfold movI; rw [if_neg c2]
            rw [hv] at rest
            have ra := rD_ok X0
            have rb := rP_ok X0
            have sa := szd X0
            have sb := szp X0
            have ea : dX (X0 ++ [(W, n)]) = dX X0 ++ [.list (W.map Nd.d)] := dX_app _ _
            have eb : pX (X0 ++ [(W, n)]) = pX X0 ++ [.int .i64 n] := pX_app _ _
            have ec := rD_app X0 (W, n)
            have ed := rP_app X0 (W, n)
            have la : (dX X0).length + 1 ≤ 1073741824 := by rw [dX_len]; omega
            have lb : (pX X0).length + 1 ≤ 1073741824 := by rw [pX_len]; omega
            clear c1 hd h hm hv hl hb0
            refine Qy ?_
            exact rest _ ⟨Wy, Wy, Wy, Wy, Wy, Wy, Wy, Wy⟩
    · rintro st ⟨g10, g8, g0, g1, g6, r6, g7, r7⟩
      have h : i < ns.length := HH
      have hl : ns.length ≤ 1000 := HLL
      have hb0 : X0.length ≤ i * 2001 := HB0
      have hdl : (dropC i (ns, n)).toList.length ≤ 1 := HDL
      have hlA : x.at_.length ≤ 1000 := HLA
      have hlS : x.st.length ≤ 1000 := HLS
      have hnx : preF (ns, n) (i + 1) = X0 ++ (dropC i (ns, n)).toList ++ aF (ns, n) i x.at_.length ++ stF (ns, n) i x.st.length := HNX
      have hbd : (ns.map Nd.d).getD i .bad = .agg [.int .i64 x.p, .int .i64 x.k, .str x.sp, .str x.nm, .list (x.at_.map At.d), .list (x.st.map .str), .str x.tx] := HBD
      have hw : IntKind.i64.wrap ((i : Int) + 1) = ((i + 1 : Nat) : Int) := HW
      clear HNX HDL
      generalize (dropC i (ns, n)).toList = DC at *
      have hPl : (X0 ++ DC).length ≤ i * 2001 + 1 := by rw [List.length_append]; omega
      generalize X0 ++ DC = P1 at *
      refine loopH (fun st => ∃ k : Nat, k ≤ x.at_.length ∧ st.slot 10 = .int .i64 k ∧ st.slot 8 = .int .i64 (i : Nat) ∧ st.slot 0 = .list (ns.map Nd.d) ∧ st.slot 1 = .int .i64 n ∧ st.slot 6 = .list (dX (P1 ++ aF (ns, n) i k)) ∧ st.room 6 = [rD (P1 ++ aF (ns, n) i k)] ∧ st.slot 7 = .list (pX (P1 ++ aF (ns, n) i k)) ∧ st.room 7 = [rP (P1 ++ aF (ns, n) i k)]) (fun st => x.at_.length - slotI st 10) ?_ ?_
      · refine ⟨0, Nat.zero_le _, ?_⟩
        have e0 : P1 ++ aF (ns, n) i 0 = P1 := by simp [aF]
        rw [e0]
        exact ⟨g10, g8, g0, g1, g6, r6, g7, r7⟩
      rintro st K ⟨k, hk, g10, g8, g0, g1, g6, r6, g7, r7⟩ hn hx hr
      have hal := aF_len (ns, n) i k
      have lM := lenM x.at_ At.d
      by_cases hkl : k < x.at_.length
      · have k9 : (k : Int) < x.at_.length := by omega
        have k8 : (k : Int) ≤ x.at_.length := by omega
        have k7 : ((k + 1 : Nat) : Int) ≤ x.at_.length := by omega
        have hwk := wrapS k (by omega)
        have hno := noA_at (n := n) (show ns[i]? = some x from HX1) hkl
        have hset := rowA_set (show ns[i]? = some x from HX1) k
        obtain ⟨hc1, hc2⟩ := cells_l7 h (show 4 < 7 by decide) (.list ((x.at_.map At.d).take k ++ (x.at_.map At.d).drop (k + 1)))
        have s0 := sz3 x.at_
        have s1 := sz3t x.at_ k
        have s2 := sz3d x.at_ (k + 1)
        have q1 : ((x.at_.map At.d).take k).length ≤ 1073741824 := by simp only [List.length_take, List.length_map]; omega
        have q2 : ((x.at_.map At.d).take k).length + ((x.at_.map At.d).drop (k + 1)).length ≤ 1073741824 := by simp only [List.length_take, List.length_drop, List.length_map]; omega
        have s7 := sz7 ns
        have h0 : 0 < (ns.map Nd.d).length := by rw [List.length_map]; omega
        have h1 : (ns.map Nd.d).length ≤ 1073741824 := by rw [List.length_map]; omega
        have hnx2 : P1 ++ aF (ns, n) i (k + 1) = (P1 ++ aF (ns, n) i k) ++ [(ns.set i (x.noA k), n)] := by rw [aF_succ hno, List.append_assoc]
        have hXl : (P1 ++ aF (ns, n) i k).length ≤ i * 2001 + 2 + 1000 + k := by rw [List.length_append]; omega
        generalize hY : P1 ++ aF (ns, n) i (k + 1) = Y at *
        generalize P1 ++ aF (ns, n) i k = X at *
        generalize ns.set i (x.noA k) = W at *
        have ra := rD_ok X
        have rb := rP_ok X
        have sa := szd X
        have sb := szp X
        have ea : dX (X ++ [(W, n)]) = dX X ++ [.list (W.map Nd.d)] := dX_app _ _
        have eb : pX (X ++ [(W, n)]) = pX X ++ [.int .i64 n] := pX_app _ _
        have ec := rD_app X (W, n)
        have ed := rP_app X (W, n)
        have la : (dX X).length + 1 ≤ 1073741824 := by rw [dX_len]; omega
        have lb : (pX X).length + 1 ≤ 1073741824 := by rw [pX_len]; omega
        generalize hT1 : (x.at_.map At.d).take k = T1 at *
        generalize hT2 : (x.at_.map At.d).drop (k + 1) = T2 at *
        generalize hF1 : (flat (ns.map Nd.d)).take (i * 7 + 4) = F1 at *
        generalize hF2 : (flat (ns.map Nd.d)).drop (i * 7 + 4 + 1) = F2 at *
        have HK : k + 1 ≤ x.at_.length := hkl
        have HKL := Hd.mk HK
        clear hno hXl hx hr HK hkl hk hal h hl hlA hlS hb0 hPl
        refine Qy ?_
        exact hn _ ⟨k + 1, HKL, Wy, Wy, Wy, Wy, Wy, Wy, Wy, Wy⟩ Zy
      · obtain rfl : k = x.at_.length := by omega
        have k9 : ¬ (x.at_.length : Int) < x.at_.length := by omega
        clear hn hr
        refine Gy ?_
        refine hx _ _ ?_
        clear hx
        have hPm : (P1 ++ aF (ns, n) i x.at_.length).length ≤ i * 2001 + 1 + 1000 := by rw [List.length_append]; omega
        generalize P1 ++ aF (ns, n) i x.at_.length = P2 at *
        clear hkl hk hal k9
        refine Gy ?_
        refine loopH (fun st => ∃ k : Nat, k ≤ x.st.length ∧ st.slot 12 = .int .i64 k ∧ st.slot 8 = .int .i64 (i : Nat) ∧ st.slot 0 = .list (ns.map Nd.d) ∧ st.slot 1 = .int .i64 n ∧ st.slot 6 = .list (dX (P2 ++ stF (ns, n) i k)) ∧ st.room 6 = [rD (P2 ++ stF (ns, n) i k)] ∧ st.slot 7 = .list (pX (P2 ++ stF (ns, n) i k)) ∧ st.room 7 = [rP (P2 ++ stF (ns, n) i k)]) (fun st => x.st.length - slotI st 12) ?_ ?_
        · refine ⟨0, Nat.zero_le _, ?_⟩
          have e0 : P2 ++ stF (ns, n) i 0 = P2 := by simp [stF]
          rw [e0]
          exact ⟨Iy, Wy, Wy, Wy, Wy, Wy, Wy, Wy⟩
        rintro st K ⟨k, hk, g12, g8, g0, g1, g6, r6, g7, r7⟩ hn hx hr
        have hal := stF_len (ns, n) i k
        have lM := lenM x.st D.str
        by_cases hkl : k < x.st.length
        · have k9 : (k : Int) < x.st.length := by omega
          have k8 : (k : Int) ≤ x.st.length := by omega
          have k7 : ((k + 1 : Nat) : Int) ≤ x.st.length := by omega
          have hwk := wrapS k (by omega)
          have hno := noS_at (n := n) (show ns[i]? = some x from HX1) hkl
          have hset := rowS_set (show ns[i]? = some x from HX1) k
          obtain ⟨hc1, hc2⟩ := cells_l7 h (show 5 < 7 by decide) (.list ((x.st.map D.str).take k ++ (x.st.map D.str).drop (k + 1)))
          have s0 := sz1s x.st
          have s1 := sz1t x.st k
          have s2 := sz1d x.st (k + 1)
          have q1 : ((x.st.map D.str).take k).length ≤ 1073741824 := by simp only [List.length_take, List.length_map]; omega
          have q2 : ((x.st.map D.str).take k).length + ((x.st.map D.str).drop (k + 1)).length ≤ 1073741824 := by simp only [List.length_take, List.length_drop, List.length_map]; omega
          have s7 := sz7 ns
          have h0 : 0 < (ns.map Nd.d).length := by rw [List.length_map]; omega
          have h1 : (ns.map Nd.d).length ≤ 1073741824 := by rw [List.length_map]; omega
          have hnx2 : P2 ++ stF (ns, n) i (k + 1) = (P2 ++ stF (ns, n) i k) ++ [(ns.set i (x.noS k), n)] := by rw [stF_succ hno, List.append_assoc]
          have hXl : (P2 ++ stF (ns, n) i k).length ≤ i * 2001 + 2 + 1000 + k := by rw [List.length_append]; omega
          generalize hY : P2 ++ stF (ns, n) i (k + 1) = Y at *
          generalize P2 ++ stF (ns, n) i k = X at *
          generalize ns.set i (x.noS k) = W at *
          have ra := rD_ok X
          have rb := rP_ok X
          have sa := szd X
          have sb := szp X
          have ea : dX (X ++ [(W, n)]) = dX X ++ [.list (W.map Nd.d)] := dX_app _ _
          have eb : pX (X ++ [(W, n)]) = pX X ++ [.int .i64 n] := pX_app _ _
          have ec := rD_app X (W, n)
          have ed := rP_app X (W, n)
          have la : (dX X).length + 1 ≤ 1073741824 := by rw [dX_len]; omega
          have lb : (pX X).length + 1 ≤ 1073741824 := by rw [pX_len]; omega
          generalize hT1 : (x.st.map D.str).take k = T1 at *
          generalize hT2 : (x.st.map D.str).drop (k + 1) = T2 at *
          generalize hF1 : (flat (ns.map Nd.d)).take (i * 7 + 5) = F1 at *
          generalize hF2 : (flat (ns.map Nd.d)).drop (i * 7 + 5 + 1) = F2 at *
          have HK : k + 1 ≤ x.st.length := hkl
          have HKL := Hd.mk HK
          clear hno hXl hx hr HK hkl hk hal h hl hlA hlS hb0 hPm
          refine Qy ?_
          exact hn _ ⟨k + 1, HKL, Wy, Wy, Wy, Wy, Wy, Wy, Wy, Wy⟩ Zy
        · obtain rfl : k = x.st.length := by omega
          have k9 : ¬ (x.st.length : Int) < x.st.length := by omega
          clear hn hr
          refine Gy ?_
          refine hx _ _ ?_
          clear hx
          rw [← hnx] at g6 g7 r6 r7
          have HI1 : Hd (i + 1 ≤ ns.length) := h
          clear h hl hlA hlS hb0 hPm hnx hkl hk hal
          refine Qy ?_
          exact hN _ ⟨i + 1, HI1, Wy, Wy, Wy, Wy, Wy, Wy, Wy⟩ Zy
  · obtain rfl : i = ns.length := by omega
    have g9 : ¬ (ns.length : Int) < ns.length := by omega
    rw [preF_all] at g6 g7 r6 r7
    have hR : R1 = smallF (ns, n) := hR1
    rw [← hR] at g6 g7 r6 r7
    clear hR hR1 hN hr hb0 hl hA hS h
    refine Gy ?_
    refine hX _ _ ?_
    exact Wy
end Go.Av
namespace Go.Av
open Go.Proofs
variable [Rk] {chk : List D → Bool}
theorem Qv {p q : Prop} (k : q) (h : q → p := by intro k; repeat' (first|simp only [*, -k, upd, ptrIn_ifx, ee34, AVB, AVY, ↓reduceIte, Nat.reduceEqDiff, Nat.reduceLT, Nat.reduceLeDiff, reduceCtorEq, Nat.reduceBEq, String.reduceBEq, Nat.reduceAdd, Nat.reduceSub, Nat.reduceMul, Int.reduceLE, Int.reduceLT, Int.reduceToNat, Int.reduceBEq, Int.reduceBNe, List.zipWith, dIntBin]|refine drW_intro (by kernel_rfl) ?_|refine gw_intro (fun h => ?_) (fun h => ?_) <;> try simp only [AVH] at h|exact k)) : p := h k
theorem Wv {p : Prop} (h : p := by repeat' (first|simp only [*, upd, ptrIn_ifx, ee34, AVB, AVY, ↓reduceIte, Nat.reduceEqDiff, Nat.reduceLT, Nat.reduceLeDiff, reduceCtorEq, Nat.reduceBEq, String.reduceBEq, Nat.reduceAdd, Nat.reduceSub, Nat.reduceMul, Int.reduceLE, Int.reduceLT, Int.reduceToNat, Int.reduceBEq, Int.reduceBNe, List.zipWith, dIntBin]|refine drW_intro (by kernel_rfl) ?_|refine gw_intro (fun h => ?_) (fun h => ?_) <;> try simp only [AVH] at h)) : p := h
noncomputable def extTop (chk : List D → Bool) : Call := fun f args pbs => if f = 9 ∨ f = 3 then none else (match extT (callL Tryz.prog (ext11b chk)) f args pbs with | some r => some r | none => callL Tryz.prog (ext11b chk) f args pbs)
theorem extT_none {call : Call} {f : FuncId} {args : List D} {pbs : List Bx} (h1 : f ≠ 26) (h2 : f ≠ 27) : extT call f args pbs = none := by
  unfold extT
  split
  · exact absurd rfl h1
  · exact absurd rfl h2
  · rfl
theorem top_of {f : FuncId} {args : List D} {pbs : List Bx} {r : D × List Room × List Bx} (hf : (f != 9 && (f != 3 && (f != 26 && f != 27))) = true) (h : callL Tryz.prog (ext11b chk) f args pbs = some r) : callL Tryz.prog (extTop chk) f args pbs = some r := by
  simp only [Bool.and_eq_true, bne_iff_ne, ne_eq] at hf
  refine callL_ext ?_
  unfold extTop
  rw [if_neg (fun e => e.elim hf.1 hf.2.1), extT_none hf.2.2.1 hf.2.2.2]
  exact h
theorem extTop_ok (he : chk [] = true → Rk.b = true) : CallOK Tryz.prog (extTop chk) := by
  intro f args pbs d r pbs' h
  have hc := callL_ok fineS (ext11b_ok chk he)
  unfold extTop at h
  split at h
  · cases h
  · split at h
    · rename_i x hx
      exact extT_ok hc _ _ _ _ _ _ (hx.trans h)
    · exact hc _ _ _ _ _ _ h
theorem attrs_top {A B : D} {T : Th → Bool} (HT : TstOK chk A B T) (s : Th) (hI : InvT s) (rm : List Room) : callL Tryz.prog (extTop chk) 26 [.ptr (pid 0) 0 0] [⟨0, [.list (s.1.map Nd.d), .int .i64 s.2, .func (.func 7) [] [.fix A 0, .fix B 0]], rm⟩] =
    some (.bool (passT T (noACs s) (s, false)).2, [], [⟨0, [.list ((passT T (noACs s) (s, false)).1.1.map Nd.d), .int .i64 (passT T (noACs s) (s, false)).1.2, .func (.func 7) [] [.fix A 0, .fix B 0]], []⟩]) := by
  refine callL_ext ?_
  have h := attrs_pass (try_OK HT) hI
  unfold extTop
  rw [if_neg (by decide)]
  have e : extT (callL Tryz.prog (ext11b chk)) 26 [.ptr (pid 0) 0 0] [⟨0, [.list (s.1.map Nd.d), .int .i64 s.2, .func (.func 7) [] [.fix A 0, .fix B 0]], rm⟩] = (match outerT (callL Tryz.prog (ext11b chk)) true (s.1.map Nd.d).length 0 (dT (.func (.func 7) [] [.fix A 0, .fix B 0]) s, false) with
    | some ((es', n', t'), dn) => some (.bool dn, [], [⟨0, [.list es', .int .i64 n', t'], []⟩])
    | none => none) := rfl
  rw [e, List.length_map, h]
  rfl
theorem states_top {A B : D} {T : Th → Bool} (HT : TstOK chk A B T) (s : Th) (hI : InvT s) (rm : List Room) : callL Tryz.prog (extTop chk) 27 [.ptr (pid 0) 0 0] [⟨0, [.list (s.1.map Nd.d), .int .i64 s.2, .func (.func 7) [] [.fix A 0, .fix B 0]], rm⟩] =
    some (.bool (passT T (noSCs s) (s, false)).2, [], [⟨0, [.list ((passT T (noSCs s) (s, false)).1.1.map Nd.d), .int .i64 (passT T (noSCs s) (s, false)).1.2, .func (.func 7) [] [.fix A 0, .fix B 0]], []⟩]) := by
  refine callL_ext ?_
  have h := states_pass (try_OK HT) hI
  unfold extTop
  rw [if_neg (by decide)]
  have e : extT (callL Tryz.prog (ext11b chk)) 27 [.ptr (pid 0) 0 0] [⟨0, [.list (s.1.map Nd.d), .int .i64 s.2, .func (.func 7) [] [.fix A 0, .fix B 0]], rm⟩] = (match outerT (callL Tryz.prog (ext11b chk)) false (s.1.map Nd.d).length 0 (dT (.func (.func 7) [] [.fix A 0, .fix B 0]) s, false) with
    | some ((es', n', t'), dn) => some (.bool dn, [], [⟨0, [.list es', .int .i64 n', t'], []⟩])
    | none => none) := rfl
  rw [e, List.length_map, h]
  rfl
theorem loopF {P : Program} {ext : Call} {n : Nat} {res : List Tmp} {Q : X → St → Prop} {k : List It} {s : St} {b : Code} (J : Nat → St → Prop) (h0 : ∃ f, J f s)
    (round : ∀ (f : Nat) (s : St) (K : X → St → Prop), J f s → Hd (∀ f' s', J f' s' → f' < f → K .normal s') → Hd (∀ id s', goX P ext n res Q k (.exit id) s' → K (.exit id) s') → Hd (∀ s', Q .ret s' → K .ret s') → goX P ext n res K [.code b] .normal s) :
    loopAt P ext n res Q k b s := by
  have least : ∀ (m : Nat) (s : St), J m s → ∃ m, J m s ∧ ∀ j, J j s → m ≤ j := by
    intro m s
    induction m using Nat.strongRecOn with
    | _ m ih =>
      intro h
      by_cases c : ∃ j, j < m ∧ J j s
      · obtain ⟨j, hj, h'⟩ := c
        exact ih j hj h'
      · exact ⟨m, h, fun j hj => Nat.le_of_not_lt fun hl => c ⟨j, hl, hj⟩⟩
  let μ : St → Nat := fun s => @dite _ (∃ m, J m s ∧ ∀ j, J j s → m ≤ j) (Classical.propDecidable _) (fun h => h.choose) (fun _ => 0)
  have hμ : ∀ s m, J m s → J (μ s) s ∧ μ s ≤ m := fun s m h => by
    have h' := least m s h
    have e : μ s = h'.choose := by
      show @dite _ _ (Classical.propDecidable _) _ _ = _
      rw [dif_pos h']
    rw [e]
    exact ⟨h'.choose_spec.1, h'.choose_spec.2 m h⟩
  refine loopK (fun s => ∃ f, J f s) μ h0 fun s K ⟨f, hf⟩ hn hx hr => ?_
  obtain ⟨h1, _⟩ := hμ s f hf
  exact round (μ s) s K h1 (fun f' s' h' hl => hn s' ⟨f', h'⟩ (Nat.lt_of_le_of_lt (hμ s' f' h').2 hl)) hx hr
theorem exQ_t {P : Program} {rs : List ResultVar} {Y : D × List Room × List Bx → Prop} {s : St} (ds : List D) (hY : ∀ r, Y (.tuple ds, r, [])) (h : match rvars P s rs with | some l => l.map (·.1) = ds ∧ 2 ≤ l.length | none => False) : exQ P rs 0 Y .ret s := by
  cases e : rvars P s rs with
  | none => rw [e] at h; exact h.elim
  | some l =>
    rw [e] at h
    obtain ⟨h1, h2⟩ := h
    refine exQ_i (.tuple ds, l.map (·.2), []) (hY _) ?_
    show endR 0 _ s rs (rvars P s rs)
    rw [e]
    refine ⟨?_, rfl⟩
    match l, h2 with
    | x :: y :: r, _ => rw [← h1]; rfl
theorem chk_z2 {ns : List Nd} (h : chkF ns = (0, 0)) : errD (chkF ns) = .con .nilIface := by rw [h]; rfl
theorem chk_e2 {ns : List Nd} (h : (chkF ns).1 ≠ 0) : errD (chkF ns) = .iface 68 (.fix (.agg [.int .i64 (chkF ns).1, .int .i64 (chkF ns).2, .con .nilIface]) 0) := by unfold errD; rw [if_neg h]; rfl
def fltD (k : Int) : D := .iface 68 (.fix (.agg [.int .i64 k, .int .i64 0, .con .nilIface]) 0)
theorem thin_e1 (ns : List Nd) (n : Int) (t : D) (hS : SmallD ns) (h : (chkF ns).1 ≠ 0) : callL Tryz.prog (extTop chk) 9 [.list (ns.map Nd.d), .int .i64 n, t] [] = some (.tuple [.list [], .int .i64 0, fltD 10], [.full, .no, .no], []) := by
  have h1 := top_of (by decide) (check_L (chk := chk) ns hS)
  rw [chk_e2 h] at h1
  have h2 := top_of (by decide) (fail_L (chk := chk) 10 0)
  unfold faultD at h2
  unfold fltD
  generalize (chkF ns).1 = k1 at *
  generalize (chkF ns).2 = k2 at *
  generalize ns.map Nd.d = NS at *
  clear h hS
  exact callK (m := 70) (res := [6, 7, 8]) (rs := [.tmp 6, .tmp 7, .tmp 8]) rfl Tryz.func9 rfl rfl rfl rfl rfl Wy
theorem thin_e2 (ns : List Nd) (n : Int) (t : D) (hS : SmallD ns) (h : chkF ns = (0, 0)) (he : elB ns n = false) : callL Tryz.prog (extTop chk) 9 [.list (ns.map Nd.d), .int .i64 n, t] [] = some (.tuple [.list [], .int .i64 0, fltD 2], [.full, .no, .no], []) := by
  have h1 := top_of (by decide) (check_L (chk := chk) ns hS)
  rw [chk_z2 h] at h1
  have h2 := top_of (by decide) (fail_L (chk := chk) 2 0)
  unfold faultD at h2
  unfold fltD
  have lN := lenM ns Nd.d
  by_cases c1 : n < 0
  · clear h hS he
    exact callK (m := 70) (res := [6, 7, 8]) (rs := [.tmp 6, .tmp 7, .tmp 8]) rfl Tryz.func9 rfl rfl rfl rfl rfl Wy
  · by_cases c2 : (ns.length : Int) ≤ n
    · clear h hS he
      exact callK (m := 70) (res := [6, 7, 8]) (rs := [.tmp 6, .tmp 7, .tmp 8]) rfl Tryz.func9 rfl rfl rfl rfl rfl Wy
    · obtain ⟨j, rfl⟩ : ∃ j : Nat, n = (j : Int) := ⟨n.toNat, by omega⟩
      have hj : j < ns.length := by omega
      obtain ⟨x, hx, hk, hb⟩ := nd_any hj
      have hne : x.k ≠ 1 := by
        intro e
        rw [elB_k] at he
        rw [show ((j : Int)).toNat = j from Int.toNat_natCast j, hk, e] at he
        simp at he
      have hne' : (x.k != 1) = true := by simp [hne]
      have hmx : max (j : Int) 0 = (j : Int) := by omega
      have g9 : (j : Int) < ns.length := by omega
      generalize x.at_.map At.d = XA at *
      generalize x.st.map D.str = XS at *
      clear h hS he hx hk hne hj
      exact callK (m := 70) (res := [6, 7, 8]) (rs := [.tmp 6, .tmp 7, .tmp 8]) rfl Tryz.func9 rfl rfl rfl rfl rfl Wy
structure At1 (ns : List Nd) (j : Nat) (x : Nd) : Prop where
  b : (ns.map Nd.d).getD j .bad = .agg [.int .i64 x.p, .int .i64 1, .str x.sp, .str x.nm, .list (x.at_.map At.d), .list (x.st.map .str), .str x.tx]
  lt : (j : Int) < ns.length
  mx : max (j : Int) 0 = (j : Int)
  ge : ¬ (ns.length : Int) ≤ (j : Int)
  nn : ¬ (j : Int) < 0
theorem at1 {ns : List Nd} {n : Int} (he : elB ns n = true) : ∃ (j : Nat) (x : Nd), n = (j : Int) ∧ ns[j]? = some x ∧ x.k = 1 ∧ At1 ns j x := by
  obtain ⟨h0, h1, h2⟩ := elB_nat he
  obtain ⟨j, rfl⟩ : ∃ j : Nat, n = (j : Int) := ⟨n.toNat, by omega⟩
  obtain ⟨x, hx, hk, hb⟩ := nd_any (show j < ns.length by omega)
  rw [Int.toNat_natCast, hk] at h2
  rw [h2] at hb
  exact ⟨j, x, rfl, hx, h2, hb, by omega, by omega, by omega, by omega⟩
theorem thin_e3 (ns : List Nd) (n : Int) (A B : D) (hS : SmallD ns) (h : chkF ns = (0, 0)) (he : elB ns n = true) (ht : callL Tryz.prog (ext11b chk) 7 [.list (ns.map Nd.d), .int .i64 n, .fix A 0, .fix B 0] [] = some (.bool false, [.no], [])) :
    callL Tryz.prog (extTop chk) 9 [.list (ns.map Nd.d), .int .i64 n, .func (.func 7) [] [.fix A 0, .fix B 0]] [] = some (.tuple [.list [], .int .i64 0, fltD 1], [.full, .no, .no], []) := by
  have h1 := top_of (by decide) (check_L (chk := chk) ns hS)
  rw [chk_z2 h] at h1
  have h2 := top_of (by decide) (fail_L (chk := chk) 1 0)
  unfold faultD at h2
  unfold fltD
  have h3 := top_of (by decide) (whole_S (chk := chk) hS)
  have h4 := top_of (by decide) ht
  have lN := lenM ns Nd.d
  obtain ⟨j, x, rfl, hx, hk, ⟨b1, b2, b3, b4, b5⟩⟩ := at1 he
  generalize x.at_.map At.d = XA at *
  generalize x.st.map D.str = XS at *
  clear h hS he hx hk ht
  exact callK (m := 70) (res := [6, 7, 8]) (rs := [.tmp 6, .tmp 7, .tmp 8]) rfl Tryz.func9 rfl rfl rfl rfl rfl Wy
theorem round_calls {A B : D} {T : Th → Bool} (HT : TstOK chk A B T) (sx : Th) (hIx : InvT sx) (rm : List Room) : ∃ (a b c : Th × Bool) (rm1 : List Room),
    callL Tryz.prog (extTop chk) 25 [.ptr (pid 0) 0 0] [⟨0, [.list (sx.1.map Nd.d), .int .i64 sx.2, .func (.func 7) [] [.fix A 0, .fix B 0]], rm⟩] = some (.bool a.2, [.no], [⟨0, [.list (a.1.1.map Nd.d), .int .i64 a.1.2, .func (.func 7) [] [.fix A 0, .fix B 0]], rm1⟩]) ∧
    callL Tryz.prog (extTop chk) 26 [.ptr (pid 0) 0 0] [⟨0, [.list (a.1.1.map Nd.d), .int .i64 a.1.2, .func (.func 7) [] [.fix A 0, .fix B 0]], rm1⟩] = some (.bool b.2, [], [⟨0, [.list (b.1.1.map Nd.d), .int .i64 b.1.2, .func (.func 7) [] [.fix A 0, .fix B 0]], []⟩]) ∧
    callL Tryz.prog (extTop chk) 27 [.ptr (pid 0) 0 0] [⟨0, [.list (b.1.1.map Nd.d), .int .i64 b.1.2, .func (.func 7) [] [.fix A 0, .fix B 0]], []⟩] = some (.bool c.2, [], [⟨0, [.list (c.1.1.map Nd.d), .int .i64 c.1.2, .func (.func 7) [] [.fix A 0, .fix B 0]], []⟩]) ∧
    roundT T sx = (c.1, a.2 || b.2 || c.2) := by
  obtain ⟨rm1, q1⟩ := nodes_L HT sx hIx rm
  obtain ⟨a1, _, _, _⟩ := pass_good (T := T) (s0 := sx) (.inl rfl) hIx
  obtain ⟨c1, _, _, _⟩ := pass_good (T := T) (s0 := (passT T (dropCs sx) (sx, false)).1) (.inr (.inl rfl)) a1
  exact ⟨_, _, _, rm1, top_of (by decide) q1, attrs_top HT _ a1 rm1, states_top HT _ c1 [], rfl⟩
theorem bR67 : buildR Tryz.prog 67 [0, 1, 2] = [.no, .no, .no] := by kernel_rfl
theorem pd3 : (padR [Room.no, Room.no, Room.no] 3).take 3 = [.no, .no, .no] := rfl
set_option maxHeartbeats 8000000 in
theorem thin_L {A B : D} {T : Th → Bool} (HT : TstOK chk A B T) (s : Th) (hI : InvT s) (hT : T s = true) :
    ∃ r, callL Tryz.prog (extTop chk) 9 [.list (s.1.map Nd.d), .int .i64 s.2, .func (.func 7) [] [.fix A 0, .fix B 0]] [] = some (.tuple [.list ((thinF T (bigT s + 1) s).1.map Nd.d), .int .i64 (thinF T (bigT s + 1) s).2, .con .nilIface], r, []) := by
  obtain ⟨SF, hSF⟩ : ∃ R, Hd (R = thinF T (bigT s + 1) s) := ⟨_, rfl⟩
  rw [← (show SF = thinF T (bigT s + 1) s from hSF)]
  have h1 := top_of (by decide) (check_L (chk := chk) s.1 hI.small)
  rw [chk_z2 hI.right] at h1
  have h3 := top_of (by decide) (whole_S (chk := chk) hI.small)
  have h4 := top_of (by decide) (HT s hI)
  rw [hT] at h4
  have lN := lenM s.1 Nd.d
  have he : elB s.1 s.2 = true := by
    obtain ⟨j, n, e1, e2, e3⟩ := hI.elem
    rw [e1, elB_k, Int.toNat_natCast]
    unfold kAt
    rw [e2]
    simp [e3]
  obtain ⟨j, x, e2, hx, hk, ⟨b1, b2, b3, b4, b5⟩⟩ := at1 he
  rw [← e2] at b2 b3 b4 b5
  have b1' : (s.1.map Nd.d).getD s.2.toNat .bad = .agg [.int .i64 x.p, .int .i64 1, .str x.sp, .str x.nm, .list (x.at_.map At.d), .list (x.st.map .str), .str x.tx] := by rw [e2, Int.toNat_natCast]; exact b1
  have b6 : 0 ≤ s.2 := by omega
  have HI := Hd.mk hI
  generalize x.at_.map At.d = XA at *
  generalize x.st.map D.str = XS at *
  clear b1 hx hk e2 he hT hI
  have r1 := bR67
  have r2 := pd3
  obtain ⟨R, hR, r, rfl⟩ := callX (Y := fun R => ∃ r, R = (D.tuple [.list (SF.1.map Nd.d), .int .i64 SF.2, .con .nilIface], r, ([] : List Bx))) (P := Tryz.prog) (ext := extTop chk) (args := [.list (s.1.map Nd.d), .int .i64 s.2, .func (.func 7) [] [.fix A 0, .fix B 0]]) (pbs := []) (f := 9) (m := 70) (res := [6, 7, 8]) (rs := [.tmp 6, .tmp 7, .tmp 8]) rfl Tryz.func9 rfl rfl rfl rfl rfl (by
    refine Qy ?_
    clear h1 h3 h4 b1' b2 b3 b4 b5 b6 lN r1 r2
    refine loopF (fun f st => ∃ (m : Bool) (sx : Th) (rm : List Room), InvT sx ∧ Hd (m = true → bigT sx < f) ∧ Hd (SF = if m = true then thinF T f sx else sx) ∧ st.slot 10 = .bool m ∧ st.slot 9 = .ptr 47 1 0 ∧ st.box 47 = some ⟨1, [.list (sx.1.map Nd.d), .int .i64 sx.2, .func (.func 7) [] [.fix A 0, .fix B 0]], rm⟩) ?_ ?_
    · exact ⟨bigT s + 1, true, s, [.no, .no, .no], HI, fun _ => Nat.lt_succ_self _, hSF, Wy, Wy, Wy⟩
    · rintro f st K ⟨m, sx, rm, hIx, hf, hO, g10, g9, gb⟩ hn hx hr
      cases m with
      | false =>
        have hO' : SF = sx := hO
        subst hO'
        clear hn hr hIx hf hO
        refine Qy ?_
        refine hx _ _ ?_
        refine Qy ?_
        refine exQ_t _ (fun r => ⟨r, rfl⟩) ?_
        refine Gy ?_
        trivial
      | true =>
        have hf' : bigT sx < f := hf rfl
        obtain ⟨f, rfl⟩ : ∃ g, f = g + 1 := ⟨f - 1, by omega⟩
        have hO' : SF = thinF T (f + 1) sx := hO
        obtain ⟨rg1, rg2, rg3, _⟩ := round_good (T := T) hIx
        rw [thinF] at hO'
        obtain ⟨⟨a0, x1⟩, ⟨b0, x2⟩, ⟨c0, x3⟩, rm1, q1, q2, q3, hrt⟩ := round_calls HT sx hIx rm
        rw [hrt] at hO' rg1 rg2 rg3
        dsimp only at q1 q2 q3 hO' rg1 rg2 rg3
        have HX := Hd.mk rg1
        have key : Hd ((x1 || x2 || x3) = true → bigT c0 < f) := fun e => by have := rg3 e; omega
        have HO : Hd (SF = if (x1 || x2 || x3) = true then thinF T f c0 else c0) := hO'
        clear hO hO' hf hf' hIx rg1 rg2 rg3 hrt hx hr
        cases x1 <;> cases x2 <;> cases x3 <;> (refine Qy ?_; exact hn f _ ⟨_, c0, [], HX, key, HO, Iy, L, L⟩ (Nat.lt_succ_self f)))
  exact ⟨r, hR⟩
end Go.Av
namespace Go.Av
open Go.Proofs
variable [Rk] {chk : List D → Bool}
theorem Iv {p : Prop} (h : p := by first | (simp only [*, upd, AVB, AVY, ↓reduceIte, Nat.reduceEqDiff, Nat.reduceLT, Nat.reduceLeDiff, reduceCtorEq, Nat.reduceBEq, String.reduceBEq, Nat.reduceAdd, Nat.reduceSub, Nat.reduceMul, Int.reduceLE, Int.reduceLT, Int.reduceToNat, Int.reduceBEq, Int.reduceBNe, List.zipWith, dIntBin]; done) | (simp only [*, upd, AVB, AVY, ↓reduceIte, Nat.reduceEqDiff, Nat.reduceLT, Nat.reduceLeDiff, reduceCtorEq, Nat.reduceBEq, String.reduceBEq, Nat.reduceAdd, Nat.reduceSub, Nat.reduceMul, Int.reduceLE, Int.reduceLT, Int.reduceToNat, Int.reduceBEq, Int.reduceBNe, List.zipWith, dIntBin]; rfl) | rfl) : p := h
theorem chk_nz {ns : List Nd} (h : (chkF ns).1 = 0) : chkF ns = (0, 0) := by
  have key : ∀ {r a : List Nd} {roots : Int}, (chkG a r roots).1 = 0 → chkG a r roots = (0, 0) := by
    intro r
    induction r with
    | nil =>
      intro a roots h
      rw [chkG] at h ⊢
      split at h
      · rename_i h1; rw [if_pos h1]
      · simp at h
    | cons x r ih =>
      intro a roots h
      rw [chkG] at h ⊢
      split at h
      · rename_i h1; rw [if_pos h1]; exact ih h
      · simp at h
  exact key h
theorem sum_small : ∀ {l : List Nd}, (∀ n ∈ l, n.at_.length ≤ 20 ∧ n.st.length ≤ 20) → sumN l ≤ 40 * l.length
  | [], _ => Nat.le_refl _
  | x :: r, h => by
    have h1 := h x (List.mem_cons_self ..)
    have h2 := sum_small (l := r) fun n hn => h n (List.mem_cons_of_mem _ hn)
    rw [sumN, List.length_cons]
    unfold cntN
    omega
theorem big_small {ns : List Nd} (h : greatF ns 12 = false) : ns.length + sumN ns ≤ 492 := by
  unfold greatF at h
  simp only [Bool.or_eq_false_iff, decide_eq_false_iff_not, List.any_eq_false] at h
  obtain ⟨h1, h2⟩ := h
  have := sum_small (l := ns) fun n hn => by
    have h3 : ndG n = false := by simpa using h2 n hn
    unfold ndG ndG0 at h3
    simp only [Bool.or_eq_false_iff, decide_eq_false_iff_not] at h3
    exact ⟨by omega, by omega⟩
  omega
theorem small_inv {s x : Th} (h : InvT s) (hx : x ∈ smallF s) : InvT x := by
  unfold smallF at hx
  obtain ⟨i, hi, hx⟩ := List.mem_flatMap.1 hx
  rcases List.mem_append.1 hx with hx | hx
  · exact (drop_less h (show dropC i s = some x by simpa using hx)).1
  · rcases List.mem_append.1 hx with hx | hx
    · obtain ⟨k, _, hx⟩ := List.mem_filterMap.1 hx
      exact (noA_less h hx).1
    · obtain ⟨k, _, hx⟩ := List.mem_filterMap.1 hx
      exact (noS_less h hx).1
theorem el_of {s : Th} (h : InvT s) : elB s.1 s.2 = true ∧ 0 ≤ s.2 ∧ s.2 < s.1.length := by
  obtain ⟨j, n, e1, e2, e3⟩ := h.elem
  have := (List.getElem?_eq_some_iff.1 e2).1
  refine ⟨?_, by omega, by omega⟩
  rw [e1, elB_k, Int.toNat_natCast]
  unfold kAt
  rw [e2]
  simp [e3]
theorem inv_of {ns : List Nd} {n : Int} (hS : SmallD ns) (hz : chkF ns = (0, 0)) (he : elB ns n = true) : InvT (ns, n) := by
  obtain ⟨j, x, rfl, hx, hk, _⟩ := at1 he
  exact ⟨hS, hz, j, x, rfl, hx, hk⟩
structure EndF (chk : List D → Bool) (A B : D) (S0 SF : Th) (X : List Th) : Prop where
  c5 : callL Tryz.prog (extTop chk) 5 [.list (SF.1.map Nd.d)] [] = some (.tuple [.int .i64 0, .int .i64 0], [.no, .no], [])
  c11 : callL Tryz.prog (extTop chk) 11 [.list (SF.1.map Nd.d), .int .i64 SF.2] [] = some (.bool true, [.no], [])
  c7 : callL Tryz.prog (extTop chk) 7 [.list (SF.1.map Nd.d), .int .i64 SF.2, .fix A 0, .fix B 0] [] = some (.bool true, [.no], [])
  c12 : callL Tryz.prog (extTop chk) 12 [.list (SF.1.map Nd.d)] [] = some (.int .i64 (sizeF SF.1), [.no], [])
  d12 : callL Tryz.prog (extTop chk) 12 [.list (S0.1.map Nd.d)] [] = some (.int .i64 (sizeF S0.1), [.no], [])
  sz : ¬ sizeF S0.1 < sizeF SF.1
  c13 : callL Tryz.prog (extTop chk) 13 [.list (SF.1.map Nd.d), .int .i64 SF.2] [] = some (.tuple [.list (dX X), .list (pX X)], [rD X, rP X], [])
  len : X.length ≤ 1000000000
  all : Hd (∀ x ∈ X, callL Tryz.prog (extTop chk) 7 [.list (x.1.map Nd.d), .int .i64 x.2, .fix A 0, .fix B 0] [] = some (.bool false, [.no], []))
theorem end_of {A B : D} {T : Th → Bool} (HT : TstOK chk A B T) (s : Th) (hI : InvT s) (hT : T s = true) (hb : bigT s ≤ 492) : ∃ X, EndF chk A B s (thinF T (bigT s + 1) s) X := by
  obtain ⟨i1, i2, i3, i4⟩ := thin_good (T := T) (f := bigT s + 1) hI (Nat.lt_succ_self _)
  have i3 := i3 hT
  generalize thinF T (bigT s + 1) s = SF at *
  refine ⟨smallF SF, ?_⟩
  have hbF : SF.1.length + sumN SF.1 ≤ 492 := by unfold bigT at i2 hb; omega
  obtain ⟨e1, e2, e3⟩ := el_of i1
  have h5 := top_of (by decide) (rcheck_L (chk := chk) SF.1 i1.small.big)
  rw [i1.right] at h5
  have h11 := top_of (by decide) (relem_L (chk := chk) SF.1 SF.2)
  rw [e1] at h11
  have h7 := top_of (by decide) (HT SF i1)
  rw [i3] at h7
  refine ⟨h5, h11, h7, top_of (by decide) (rsize_L (chk := chk) SF.1 i1.small), top_of (by decide) (rsize_L (chk := chk) s.1 hI.small), ?_, ?_, ?_, fun x hx => ?_⟩
  · unfold sizeF
    unfold bigT at i2
    omega
  · refine top_of (by decide) (smaller_L (chk := chk) SF.1 SF.2 (by omega) (fun i => ?_) (fun i => ?_) (fun x hx => ?_) (by omega) (by omega))
    · have := lenA_sum SF.1 i; omega
    · have := lenA_sum SF.1 i; omega
    · have := par_bound i1.right i1.small.1 x hx; omega
  · have h1 := preF_len (s := SF) (fun i => by have := lenA_sum SF.1 i; omega) (fun i => by have := lenA_sum SF.1 i; omega) SF.1.length
    rw [preF_all] at h1
    omega
  · have h7 := top_of (by decide) (HT x (small_inv i1 hx))
    rw [i4 x hx] at h7
    exact h7
set_option maxHeartbeats 16000000 in
theorem law3_L (hck : chk [] = true) {f : Nat} (ns : List Nd) (l : List D) (nm : Nam) (n : Int) (hB : BigD ns) (hl : lsOk 140737488355328 (smOk 140737488355328 f) l = true) (hn1 : nm.pre.length ≤ 140737488355328) (hn2 : nm.sps.length ≤ 140737488355328) :
    callL Tryz.prog (extTop chk) 3 [.list (ns.map Nd.d), .list l, .agg nm.cs, .int .i64 n] [] = some (.bool true, [.no], []) := by
  have h8 : callL Tryz.prog (extTop chk) 4 [] [] = some (.bool true, [.no], []) := top_of (by decide) (aev_callL (speaks11 chk))
  have h9 := top_of (by decide) (rcheck_L (chk := chk) ns hB)
  have h10 := top_of (by decide) (greatZ_L (chk := chk) ns l nm hl hn1 hn2)
  have h11 := top_of (by decide) (relem_L (chk := chk) ns n)
  by_cases c1 : greatZ ns f l nm = true
  · rw [c1] at h10
    unfold Nam.cs at *
    generalize ns.map Nd.d = NS at *
    generalize chkF ns = z at *
    clear c1 hB hl hn1 hn2 h11
    refine cK 126 8 Tryz.func3 ?_
    exact Wv
  have c1 : greatZ ns f l nm = false := by simpa using c1
  rw [c1] at h10
  unfold greatZ at c1
  simp only [Bool.or_eq_false_iff, decide_eq_false_iff_not] at c1
  obtain ⟨g1, g2, g3, g4⟩ := c1
  have hS := great_smallD g1 (by decide)
  have hbs := big_small g1
  have hnm : nm.ok := by
    unfold gnF at g3
    simp only [Bool.or_eq_false_iff, decide_eq_false_iff_not] at g3
    exact ⟨by omega, by omega⟩
  have hls : lsOk 100 (smN 41) l = true := ls_num 41 l (cnt_small (most := 24) (by decide) (by decide) f l 0 41 rfl hl (by have : cnt 24 (f + 1) l ((0 : Nat) : Int) = cnt 24 (f + 1) l 0 := rfl; omega)) g4
  have HT : TstOK chk (.agg [.list l]) (.agg nm.cs) (fun s => selV s.1 nm l s.2 []) := fun s hI => test_L (k := 41) (by decide) hI.small (right_chk hI.right) hnm hls s.2
  clear g1 g2 g3 g4 hB hl hn1 hn2 hls hnm
  generalize (fun s : Th => selV s.1 nm l s.2 []) = T at HT
  by_cases c2 : (chkF ns).1 = 0
  · have hz := chk_nz c2
    rw [hz] at h9
    by_cases c3 : elB ns n = true
    · rw [c3] at h11
      have hI := inv_of hS hz c3
      have h7 := top_of (by decide) (HT _ hI)
      have h7' := HT _ hI
      cases c4 : T (ns, n) with
      | false =>
        rw [c4] at h7 h7'
        have ht := thin_e3 (chk := chk) ns n _ _ hS hz c3 h7'
        have hk := top_of (by decide) (kind_L (chk := chk) hck 1 0)
        unfold fltD at ht
        dsimp only at h7
        unfold Nam.cs at *
        generalize ns.map Nd.d = NS at *
        clear c2 c3 c4 hz hI h7' HT hS hbs
        refine cK 126 8 Tryz.func3 ?_
        exact Wv
      | true =>
        rw [c4] at h7
        obtain ⟨r, ht⟩ := thin_L HT (ns, n) hI c4
        obtain ⟨X, e5, e11, e7, e12, f12, esz, e13, eln, eal⟩ := end_of HT (ns, n) hI c4 hbs
        generalize thinF T (bigT (ns, n) + 1) (ns, n) = SF at *
        obtain ⟨oD, oN⟩ := SF
        dsimp only at *
        have lX : ((dX X).length : Int) = X.length := by rw [dX_len]
        have lP : ((pX X).length : Int) = X.length := by rw [pX_len]
        unfold Nam.cs at *
        generalize ns.map Nd.d = NS at *
        generalize oD.map Nd.d = OS at *
        generalize sizeF ns = z1 at *
        generalize sizeF oD = z2 at *
        generalize nm.pre.map D.str = L1 at *
        generalize nm.sps.map D.str = L2 at *
        generalize nm.has = N1 at *
        generalize nm.dft = N2 at *
        have EL := Hd.mk eln
        clear c2 c3 c4 hz hI h7' HT hS hbs eln
        refine cK 126 8 Tryz.func3 ?_
        refine Qv ?_
        refine loopH (fun st => ∃ i : Nat, i ≤ X.length ∧ st.slot 112 = .int .i64 i ∧ st.slot 111 = .int .i64 X.length ∧ st.slot 15 = .list (dX X) ∧ st.slot 16 = .list (pX X) ∧ st.slot 11 = .func (.func 7) [] [.fix (.agg [.list l]) 0, .fix (.agg [.bool N1, .str N2, .list L1, .list L2]) 0]) (fun st => X.length - slotI st 112) ?_ ?_
        · exact ⟨0, Nat.zero_le _, Iv, Wv, Wv, Wv, Wv⟩
        · rintro st K ⟨i, hi, g1, g2, g3, g4, g5⟩ hn hx hr
          have eln : X.length ≤ 1000000000 := EL
          by_cases h : i < X.length
          · have g9 : (i : Int) < X.length := by omega
            have hw := wrapS i (by omega)
            obtain ⟨y, hy⟩ := some_at h
            have hd := getD_map (f := fun x : Th => D.list (x.1.map Nd.d)) hy
            have hp := getD_map (f := fun x : Th => D.int .i64 x.2) hy
            have hd : (dX X).getD i .bad = .list (y.1.map Nd.d) := hd
            have hp : (pX X).getD i .bad = .int .i64 y.2 := hp
            have hf := (show ∀ x ∈ X, _ from eal) y (List.mem_of_getElem? hy)
            have HI : Hd (i + 1 ≤ X.length) := h
            clear hy hi hx hr eln h
            refine Qv ?_
            exact hn _ ⟨i + 1, HI, Wv, Wv, Wv, Wv, Wv⟩ Zy
          · have g9 : ¬ (i : Int) < X.length := by omega
            clear hn hr hi h eln
            refine Gy ?_
            refine hx _ _ ?_
            exact Wv
    · have c3 : elB ns n = false := by simpa using c3
      rw [c3] at h11
      have ht := thin_e2 (chk := chk) ns n (.func (.func 7) [] [.fix (.agg [.list l]) 0, .fix (.agg nm.cs) 0]) hS hz c3
      have hk := top_of (by decide) (kind_L (chk := chk) hck 2 0)
      unfold fltD at ht
      unfold Nam.cs at *
      generalize ns.map Nd.d = NS at *
      clear c2 c3 hz HT hS hbs
      refine cK 126 8 Tryz.func3 ?_
      exact Wv
  · have ht := thin_e1 (chk := chk) ns n (.func (.func 7) [] [.fix (.agg [.list l]) 0, .fix (.agg nm.cs) 0]) hS c2
    have hk := top_of (by decide) (kind_L (chk := chk) hck 10 0)
    obtain ⟨j1, j2, j3⟩ := neI c2
    unfold fltD at ht
    unfold Nam.cs at *
    generalize ns.map Nd.d = NS at *
    generalize (chkF ns).1 = z1 at *
    generalize (chkF ns).2 = z2 at *
    generalize elB ns n = eb at *
    clear c2 HT hS hbs
    refine cK 126 8 Tryz.func3 ?_
    exact Wv
end Go.Av
namespace Go.Proofs.YtaghfmgeccapbaaGreatDoor
open Go.RowKit Go.Av Go.ChangeShapes Go.WideShapes
theorem own : ownKnob Tryz.prog.godebug = none := by kernel_rfl
theorem laidOut : laidOutB Tryz.prog = true := by kernel_rfl
def laid11 : List (String × DataW Unit) := Rows.plantThinsRow.laid.filter fun x => x.2.handleName?.isNone
def nm (i : Nat) : String := (laid11.map (·.1)).getD i default
def accP : List (Int × Int) := [(128, 191), (160, 191), (128, 159), (144, 191), (128, 143), (0, 0), (0, 0), (0, 0), (0, 0), (0, 0), (0, 0), (0, 0), (0, 0), (0, 0), (0, 0), (0, 0)]
theorem acc_data : (Rows.laid_unicode_utf8_acceptRanges : DataW Unit) = .agg (accP.map fun z => .agg [.lit (.int .u8 z.1), .lit (.int .u8 z.2)]) := rfl
theorem first_data : Rows.laid_unicode_utf8_first = .agg ((Go.Pinned.utf8FirstZ.map fun n => ((n : Nat) : Int)).map fun z => .lit (.int .u8 z)) := by kernel_rfl
theorem accP_at (i : Nat) (h : i < 16) : (accP.getD i (0, 0)).1 = (accN.getD (i * 2) 0 : Nat) ∧ (accP.getD i (0, 0)).2 = (accN.getD (i * 2 + 1) 0 : Nat) := by
  rcases (by omega : i = 0 ∨ i = 1 ∨ i = 2 ∨ i = 3 ∨ i = 4 ∨ i = 5 ∨ i = 6 ∨ i = 7 ∨ i = 8 ∨ i = 9 ∨ i = 10 ∨ i = 11 ∨ i = 12 ∨ i = 13 ∨ i = 14 ∨ i = 15) with rfl | rfl | rfl | rfl | rfl | rfl | rfl | rfl | rfl | rfl | rfl | rfl | rfl | rfl | rfl | rfl <;> exact ⟨rfl, rfl⟩
theorem fs126 : ∃ fs, Tryz.prog.underlying 152 = some (.struct fs) ∧ fs.size = 2 ∧ Go.Deep.oneCellFields Tryz.prog fs = true ∧ ∀ (i : Nat) (f : Field), fs[i]? = some f → Tryz.prog.underlying f.type = some (.int .u8) := by
  have h : (match Tryz.prog.underlying 152 with | some (.struct fs) => fs.size == 2 && Go.Deep.oneCellFields Tryz.prog fs && fs.toList.all (fun f => f.type == 5) | _ => false) = true := by kernel_rfl
  split at h
  · rename_i fs hu
    simp only [Bool.and_eq_true, beq_iff_eq, List.all_eq_true] at h
    refine ⟨fs, hu, h.1.1, h.1.2, fun i f hf => ?_⟩
    rw [h.2 f (by rw [Array.mem_toList_iff]; exact Array.mem_of_getElem? hf)]
    exact Tryz.underlying5
  · cases h
theorem st_data : (Rows.laid_wattle_sel_states : DataW Unit) = .agg (stS.map fun z => .lit (.string z)) := rfl
section
variable {H : Type} {enc : TypeId × Value → H} {P : Program} {w : World} {base : Nat} {spare : Nat → Bool} {held : Bool}
theorem cells_strs {t e : TypeId} {n fuel : Nat} {cs : List Value} {p : List MemPlace} {zs : List (List UInt8)} (ht : P.underlying t = some (.array n e)) (he : P.underlying e = some .string) (hc : P.cellsOf e = 1)
    (h : DataW.trod enc P w base spare held fuel t cs = some (.agg (zs.map fun z => .lit (.string z)), p)) : ∀ i, i < n → cs[i]? = some (.string ⟨(zs.getD i []).toArray⟩) := by
  obtain ⟨xs, m, _, ex, _, hl, hel⟩ := DataW.trod_array ht h
  intro i hi
  have hE := hel i hi
  rw [hc, Nat.mul_one, List.getElem?_eq_getElem (by omega)] at hE
  obtain ⟨z, e1, e2, _⟩ := DataW.trod_string he hE
  have e3 : xs.map (·.1) = zs.map fun z => .lit (.string z) := (DataW.agg.inj (Prod.mk.inj ex).1).symm
  have hlen : zs.length = xs.length := by have := congrArg List.length e3; simpa using this.symm
  have e4 : (xs.map (·.1))[i]? = (zs.map fun z => (DataW.lit (.string z) : DataW H))[i]? := by rw [e3]
  rw [List.getElem?_map, List.getElem?_map, List.getElem?_eq_getElem (by omega : i < xs.length), List.getElem?_eq_getElem (by omega : i < zs.length), e2] at e4
  have hz : z.data.toList = zs.getD i [] := by
    simp only [Option.map_some, Option.some.injEq, DataW.lit.injEq, Lit.string.injEq] at e4
    rw [e4, List.getD, List.getElem?_eq_getElem (by omega : i < zs.length)]; rfl
  rw [← hz]
  have h0 : ((cs.drop i).take 1)[0]? = some (.string z) := by rw [e1]; rfl
  simpa using h0
end
theorem pw_strs {F : Nat → Nat → Prop} {w : World} (ss : List (List UInt8)) : ∀ (i : Nat) (v : Value) (x : D), (ss.map fun s => Value.string ⟨s.toArray⟩)[i]? = some v → (ss.map D.str)[i]? = some x → Den0 F w v x := by
  intro i v x hv hx
  simp only [List.getElem?_map, Option.map_eq_some_iff] at hv hx
  obtain ⟨z, hz, rfl⟩ := hv
  obtain ⟨z', hz', rfl⟩ := hx
  rw [hz] at hz'
  obtain rfl := Option.some.inj hz'
  exact .str z
theorem fix_of {W : World} {g : Nat} {ss : List (List UInt8)} (h : ∀ c, c < ss.length → W.cell? ⟨g, c, none⟩ = some (.string ⟨(ss.getD c []).toArray⟩)) : Den0 (old W) W (.pointer (some ⟨g, 0, none⟩)) (.fix (.agg (ss.map .str)) 0) := by
  refine Den0.fix (.agg (ss.map D.str)) g 0 0 (ss.map fun s => Value.string ⟨s.toArray⟩) (by simp [dcells]) (fun i v hv => ?_) (pw_strs _)
  simp only [List.getElem?_map, Option.map_eq_some_iff] at hv
  obtain ⟨z, hz, rfl⟩ := hv
  have hlt : i < ss.length := (List.getElem?_eq_some_iff.1 hz).1
  have hcell := h i hlt
  rw [List.getD, hz] at hcell
  rw [Nat.zero_add]
  exact ⟨cell_old hcell, hcell, rfl⟩
theorem pw_ints {F : Nat → Nat → Prop} {w : World} (ns : List Nat) : ∀ (i : Nat) (v : Value) (x : D), (ns.map fun n => Value.int .u8 (n : Nat))[i]? = some v → (ns.map fun n => D.int .u8 (n : Nat))[i]? = some x → Den0 F w v x := by
  intro i v x hv hx
  simp only [List.getElem?_map, Option.map_eq_some_iff] at hv hx
  obtain ⟨z, hz, rfl⟩ := hv
  obtain ⟨z', hz', rfl⟩ := hx
  rw [hz] at hz'
  obtain rfl := Option.some.inj hz'
  exact .int _ _
theorem fix_ints {W : World} {g : Nat} {ns : List Nat} (h : ∀ c, c < ns.length → W.cell? ⟨g, c, none⟩ = some (.int .u8 (ns.getD c 0 : Nat))) : Den0 (old W) W (.pointer (some ⟨g, 0, none⟩)) (.fix (.agg (ns.map fun n => .int .u8 (n : Nat))) 0) := by
  refine Den0.fix (.agg (ns.map fun n => D.int .u8 (n : Nat))) g 0 0 (ns.map fun n => Value.int .u8 (n : Nat)) (by simp [dcells]) (fun i v hv => ?_) (pw_ints _)
  simp only [List.getElem?_map, Option.map_eq_some_iff] at hv
  obtain ⟨z, hz, rfl⟩ := hv
  have hlt : i < ns.length := (List.getElem?_eq_some_iff.1 hz).1
  have hcell := h i hlt
  rw [List.getD, hz] at hcell
  rw [Nat.zero_add]
  exact ⟨cell_old hcell, hcell, rfl⟩
theorem gok11 [Rk] {W : World} (h : laidMet Tryz.prog laid11 W) (he : Rk.b = true → ErrT W) : GOK (old W) W := by
  obtain ⟨ps, ⟨g0, t0, cs0, f0, p0, q0, hg0, ht0, hv0, hd0, ⟨g1, t1, cs1, f1, p1, q1, hg1, ht1, hv1, hd1, ⟨g2, t2, cs2, f2, p2, q2, hg2, ht2, hv2, hd2, _⟩, _⟩, _⟩, _, _⟩ := h
  obtain rfl := Option.some.inj ((show Tryz.prog.globalNamed (nm 0) = some 3 by kernel_rfl).symm.trans hg0)
  obtain rfl := Option.some.inj ((show (Tryz.prog.globals[3]?).map (·.type) = some 153 by kernel_rfl).symm.trans ht0)
  obtain rfl := Option.some.inj ((show Tryz.prog.globalNamed (nm 1) = some 1 by kernel_rfl).symm.trans hg1)
  obtain rfl := Option.some.inj ((show (Tryz.prog.globals[1]?).map (·.type) = some 146 by kernel_rfl).symm.trans ht1)
  obtain rfl := Option.some.inj ((show Tryz.prog.globalNamed (nm 2) = some 2 by kernel_rfl).symm.trans hg2)
  obtain rfl := Option.some.inj ((show (Tryz.prog.globals[2]?).map (·.type) = some 150 by kernel_rfl).symm.trans ht2)
  have h1 : ∀ c, c < stS.length → W.cell? ⟨1, c, none⟩ = some (.string ⟨(stS.getD c []).toArray⟩) := by
    intro c hc
    rw [st_data] at hd1
    have := cells_strs Tryz.underlying146 Tryz.underlying9 (by kernel_rfl) hd1 c hc
    rw [World.var?_cell (show Tryz.prog.globalNamed (nm 1) = some 1 by kernel_rfl) hv1 c]
    simpa using this
  have h2 : ∀ c, c < ((List.range 256).map firstN).length → W.cell? ⟨2, c, none⟩ = some (.int .u8 (((List.range 256).map firstN).getD c 0 : Nat)) := by
    intro c hc
    have hc : c < 256 := by simpa using hc
    rw [first_data] at hd2
    have := cells_ints (k := .u8) Tryz.underlying150 Tryz.underlying5 (by kernel_rfl) hd2 c hc
    rw [World.var?_cell (show Tryz.prog.globalNamed (nm 2) = some 2 by kernel_rfl) hv2 c]
    have hz : (Go.Pinned.utf8FirstZ.map fun n => ((n : Nat) : Int)).getD c 0 = (firstN c : Nat) := by
      unfold firstN
      have hlen : Go.Pinned.utf8FirstZ.length = 256 := by kernel_rfl
      rw [List.getD, List.getD, List.getElem?_map, List.getElem?_eq_getElem (by omega : c < Go.Pinned.utf8FirstZ.length)]
      rfl
    rw [hz] at this
    have e : ((List.range 256).map firstN).getD c 0 = firstN c := by
      rw [List.getD, List.getElem?_map, List.getElem?_range hc]
      rfl
    rw [e]
    simpa using this
  have h3 : ∀ c, c < accN.length → W.cell? ⟨3, c, none⟩ = some (.int .u8 (accN.getD c 0 : Nat)) := by
    intro i hi
    have hi : i < 32 := hi
    rw [acc_data] at hd0
    obtain ⟨fs, h1, h2, h3, h4⟩ := fs126
    have := cells_pairs (u := 5) (k := .u8) Tryz.underlying153 h1 h2 h3 h4 (by kernel_rfl) hd0 (i / 2) (by omega)
    obtain ⟨e1, e2⟩ := accP_at (i / 2) (by omega)
    rw [e1, e2] at this
    rw [World.var?_cell (show Tryz.prog.globalNamed (nm 0) = some 3 by kernel_rfl) hv0 i]
    rcases (by omega : i = i / 2 * 2 ∨ i = i / 2 * 2 + 1) with e | e
    · rw [← e] at this; simpa using this.1
    · rw [← e] at this; simpa using this.2
  refine ⟨fun g => ?_, (fun x hx => by cases hx), fun x hx => ?_⟩
  case refine_2 =>
    replace hx : x ∈ (if Rk.b = true then [((0 : Nat), Value.iface 119 (.agg #[.pointer (some ⟨4, 36, none⟩)]))] else []) := hx
    by_cases hk : Rk.b = true
    · rw [if_pos hk] at hx
      obtain rfl := List.mem_singleton.1 hx
      exact ⟨(he hk).lt, he hk⟩
    · rw [if_neg hk] at hx
      cases hx
  show (if g = 1 then D.fix (.agg stD) 0 else if g = 2 then .fix (.agg firstD) 0 else if g = 3 then .fix (.agg accD) 0 else .bad) = .bad ∨ Den0 (old W) W (.pointer (some ⟨g, 0, none⟩)) (if g = 1 then D.fix (.agg stD) 0 else if g = 2 then .fix (.agg firstD) 0 else if g = 3 then .fix (.agg accD) 0 else .bad)
  by_cases c1 : g = 1
  · subst c1; exact .inr (fix_of h1)
  · by_cases c2 : g = 2
    · subst c2
      right
      have := fix_ints h2
      rw [List.map_map] at this
      exact this
    · by_cases c3 : g = 3
      · subst c3; exact .inr (fix_ints h3)
      · left; rw [if_neg c1, if_neg c2, if_neg c3]
theorem law_calls [Rk] {ext : Av.Call} (hext : CallOK Tryz.prog ext) {f : FuncId} {xs : List D} {r : List Room} {vals : List Value} {W : World} (hg : GOK (old W) W) (h : callL Tryz.prog ext f xs [] = some (.bool true, r, [])) (hl : vals.length = xs.length)
    (hd : ∀ (i : Nat) (v : Value) (x : D), vals[i]? = some v → xs[i]? = some x → Den0 (old W) W v x) : Calls Tryz.prog f vals.toArray W fun e W' => e = .returned (.bool true) ∧ Below W.heap.size W W' := by
  obtain ⟨N, hN⟩ := callL_aev h
  obtain ⟨_, hcall⟩ := aev_sound fineS hext N f _ [] _ _ _ hN
  have hcalls := hcall vals W (old W) mu0 hl (fun i v x hv hx => .pure _ _ (hd i v x hv hx)) (fun i bx hb => by simp at hb) (given0 W) (old_lt W) hg
  refine hcalls.mono ?_
  rintro e W' ⟨v, F', ncl, rfl, hE, _, _, hd, _⟩
  rcases hd with ⟨_, hd, _⟩ | ⟨hl, _⟩
  · exact ⟨by rw [(hd (fun _ => 0) fun _ _ => 0).bool_], hE.os, hE.tape, hE.output, hE.size, fun k hk => hE.block k hk (S_zero _ k)⟩
  · simp at hl
theorem reach_le : reachBytes ≤ 140737488355328 := by decide
section
variable {P : Program}
theorem str_ok {t : TypeId} (hu : P.underlying t = some .string) {d : D} (h : TyD P t d) : ∃ s, d = .str s ∧ s.length ≤ 140737488355328 := by
  cases h with
  | str _ l _ hl => exact ⟨_, rfl, Nat.le_trans hl reach_le⟩
  | bool _ b h => rw [hu] at h; cases h
  | int _ k n h _ => rw [hu] at h; cases h
  | list _ e es h _ _ => rw [hu] at h; cases h
  | agg _ fs ds h _ _ => rw [hu] at h; cases h
theorem int_ok {t : TypeId} (hu : P.underlying t = some (.int .i64)) {d : D} (h : TyD P t d) : ∃ z : Int, d = .int .i64 z ∧ -9223372036854775808 ≤ z ∧ z < 9223372036854775808 := by
  cases h with
  | int _ k n h hw =>
    rw [hu] at h
    cases h
    have : (Lit.int .i64 n).wf = true := hw
    simp [Lit.wf, IntKind.min, IntKind.max, IntKind.signed, IntKind.bits] at this
    exact ⟨n, rfl, by omega, by omega⟩
  | bool _ b h => rw [hu] at h; cases h
  | str _ l h hl => rw [hu] at h; cases h
  | list _ e es h _ _ => rw [hu] at h; cases h
  | agg _ fs ds h _ _ => rw [hu] at h; cases h
theorem bool_ok {t : TypeId} (hu : P.underlying t = some .bool) {d : D} (h : TyD P t d) : ∃ b, d = .bool b := by
  cases h with
  | bool _ b h => exact ⟨b, rfl⟩
  | int _ k n h _ => rw [hu] at h; cases h
  | str _ l h hl => rw [hu] at h; cases h
  | list _ e es h _ _ => rw [hu] at h; cases h
  | agg _ fs ds h _ _ => rw [hu] at h; cases h
theorem list_ok {α : Type} {f : α → D} {t e : TypeId} {Q : α → Prop} (hu : P.underlying t = some (.slice e)) (hf : ∀ d, TyD P e d → ∃ a, d = f a ∧ Q a) {d : D} (h : TyD P t d) : ∃ l : List α, d = .list (l.map f) ∧ l.length * P.bytesOf e ≤ 140737488355328 ∧ ∀ a ∈ l, Q a := by
  cases h with
  | list _ e' es h hl hes =>
    rw [hu] at h
    cases h
    have key : ∀ es : List D, (∀ d ∈ es, TyD P e d) → ∃ l : List α, es = l.map f ∧ ∀ a ∈ l, Q a := by
      intro es
      induction es with
      | nil => exact fun _ => ⟨[], rfl, fun a h => by cases h⟩
      | cons x r ih =>
        intro h
        obtain ⟨l, rfl, hq⟩ := ih fun d hd => h d (by simp [hd])
        obtain ⟨a, rfl, ha⟩ := hf x (h x (by simp))
        refine ⟨a :: l, rfl, fun b hb => ?_⟩
        rcases List.mem_cons.1 hb with rfl | hb
        · exact ha
        · exact hq b hb
    obtain ⟨l, rfl, hq⟩ := key es hes
    exact ⟨l, rfl, by rw [List.length_map] at hl; exact Nat.le_trans hl reach_le, hq⟩
  | bool _ b h => rw [hu] at h; cases h
  | int _ k n h _ => rw [hu] at h; cases h
  | str _ l h hl => rw [hu] at h; cases h
  | agg _ fs ds h _ _ => rw [hu] at h; cases h
theorem agg_ok {t : TypeId} {fs : Array Field} (hu : P.underlying t = some (.struct fs)) {d : D} (h : TyD P t d) : ∃ ds : List D, d = .agg (ds.flatMap dcells) ∧ ds.length = fs.size ∧ ∀ (i : Nat) (f : Field) (d : D), fs[i]? = some f → ds[i]? = some d → TyD P f.type d := by
  cases h with
  | agg _ fs' ds h hl hds =>
    rw [hu] at h
    cases h
    exact ⟨ds, rfl, hl, hds⟩
  | bool _ b h => rw [hu] at h; cases h
  | int _ k n h _ => rw [hu] at h; cases h
  | str _ l h hl => rw [hu] at h; cases h
  | list _ e es h _ _ => rw [hu] at h; cases h
def fieldTs (P : Program) (t : TypeId) : Option (List TypeId) := match P.underlying t with | some (.struct fs) => some (fs.toList.map (·.type)) | _ => none
theorem agg_ok' {t : TypeId} {ts : List TypeId} (hu : fieldTs P t = some ts) {d : D} (h : TyD P t d) : ∃ ds : List D, d = .agg (ds.flatMap dcells) ∧ ds.length = ts.length ∧ ∀ (i : Nat) (u : TypeId) (d : D), ts[i]? = some u → ds[i]? = some d → TyD P u d := by
  unfold fieldTs at hu
  split at hu
  · rename_i fs hf
    injection hu with hu
    subst hu
    obtain ⟨ds, h1, h2, h3⟩ := agg_ok hf h
    refine ⟨ds, h1, by simpa using h2, fun i u d hi hd => ?_⟩
    rw [List.getElem?_map] at hi
    obtain ⟨f, hf1, rfl⟩ := Option.map_eq_some_iff.1 hi
    exact h3 i f d (by simpa using hf1) hd
  · cases hu
end
theorem at_ok {d : D} (h : TyD Tryz.prog 50 d) : ∃ a : At, d = a.d ∧ BigA a := by
  obtain ⟨ds, rfl, hl, h⟩ := agg_ok' (ts := [9, 9, 9]) (by kernel_rfl) h
  match ds, hl with
  | [x, y, z], _ =>
    obtain ⟨a, rfl, ha⟩ := str_ok Tryz.underlying9 (h 0 _ _ rfl rfl)
    obtain ⟨b, rfl, hb⟩ := str_ok Tryz.underlying9 (h 1 _ _ rfl rfl)
    obtain ⟨c, rfl, hc⟩ := str_ok Tryz.underlying9 (h 2 _ _ rfl rfl)
    exact ⟨⟨a, b, c⟩, rfl, ha, hb, hc⟩
theorem le_of_mul {n b m : Nat} (h : n * b ≤ m) (hb : 0 < b) : n ≤ m := Nat.le_trans (Nat.le_mul_of_pos_right n hb) h
theorem nd_ok {d : D} (h : TyD Tryz.prog 48 d) : ∃ n : Nd, d = n.d ∧ BigN n := by
  obtain ⟨ds, rfl, hl, h⟩ := agg_ok' (ts := [3, 3, 9, 9, 46, 24, 9]) (by kernel_rfl) h
  match ds, hl with
  | [x0, x1, x2, x3, x4, x5, x6], _ =>
    obtain ⟨p, rfl, _⟩ := int_ok Tryz.underlying3 (h 0 _ _ rfl rfl)
    obtain ⟨k, rfl, _⟩ := int_ok Tryz.underlying3 (h 1 _ _ rfl rfl)
    obtain ⟨sp, rfl, h2⟩ := str_ok Tryz.underlying9 (h 2 _ _ rfl rfl)
    obtain ⟨nm, rfl, h3⟩ := str_ok Tryz.underlying9 (h 3 _ _ rfl rfl)
    obtain ⟨la, rfl, h4, h4'⟩ := list_ok (f := At.d) (Q := BigA) Tryz.underlying46 (fun d h => at_ok h) (h 4 _ _ rfl rfl)
    obtain ⟨ls, rfl, h5, _⟩ := list_ok (f := D.str) (Q := fun _ => True) Tryz.underlying24 (fun d h => (str_ok Tryz.underlying9 h).imp fun _ h => ⟨h.1, trivial⟩) (h 5 _ _ rfl rfl)
    obtain ⟨tx, rfl, h6⟩ := str_ok Tryz.underlying9 (h 6 _ _ rfl rfl)
    exact ⟨⟨p, k, sp, nm, la, ls, tx⟩, rfl, le_of_mul h4 (by decide +kernel), le_of_mul h5 (by decide +kernel), h3, h2, h6, h4'⟩
theorem doc_ok {d : D} (h : TyD Tryz.prog 22 d) : ∃ ns : List Nd, d = .list (ns.map Nd.d) ∧ BigD ns := by
  obtain ⟨l, h1, h2, h3⟩ := list_ok (f := Nd.d) (Q := BigN) Tryz.underlying22 (fun d h => nd_ok h) h
  exact ⟨l, h1, le_of_mul h2 (by decide +kernel), h3⟩
section
variable [Rk]
theorem names_ok {d : D} (h : TyD Tryz.prog 26 d) : ∃ nm : Nam, d = .agg nm.cs ∧ nm.pre.length ≤ 140737488355328 ∧ nm.sps.length ≤ 140737488355328 := by
  obtain ⟨ds, rfl, hl, h⟩ := agg_ok' (ts := [4, 9, 24, 24]) (by kernel_rfl) h
  match ds, hl with
  | [x0, x1, x2, x3], _ =>
    obtain ⟨b, rfl⟩ := bool_ok Tryz.underlying4 (h 0 _ _ rfl rfl)
    obtain ⟨s, rfl, _⟩ := str_ok Tryz.underlying9 (h 1 _ _ rfl rfl)
    obtain ⟨l1, rfl, h2, _⟩ := list_ok (f := D.str) (Q := fun _ => True) Tryz.underlying24 (fun d h => (str_ok Tryz.underlying9 h).imp fun _ h => ⟨h.1, trivial⟩) (h 2 _ _ rfl rfl)
    obtain ⟨l2, rfl, h3, _⟩ := list_ok (f := D.str) (Q := fun _ => True) Tryz.underlying24 (fun d h => (str_ok Tryz.underlying9 h).imp fun _ h => ⟨h.1, trivial⟩) (h 3 _ _ rfl rfl)
    exact ⟨⟨b, s, l1, l2⟩, rfl, le_of_mul h2 (by decide +kernel), le_of_mul h3 (by decide +kernel)⟩
theorem max_of {α : Type} {R : α → Nat → Prop} (hup : ∀ a i j, R a i → i ≤ j → R a j) : ∀ (l : List α), (∀ a ∈ l, ∃ f, R a f) → ∃ f, ∀ a ∈ l, R a f
  | [], _ => ⟨0, fun a h => by cases h⟩
  | x :: r, h => by
    obtain ⟨f1, h1⟩ := h x (List.mem_cons_self ..)
    obtain ⟨f2, h2⟩ := max_of hup r fun a ha => h a (List.mem_cons_of_mem _ ha)
    refine ⟨max f1 f2, fun a ha => ?_⟩
    rcases List.mem_cons.1 ha with rfl | ha
    · exact hup _ _ _ h1 (Nat.le_max_left ..)
    · exact hup _ _ _ (h2 a ha) (Nat.le_max_right ..)
abbrev MB : Nat := 140737488355328
abbrev Sel (t : TypeId) (d : D) (f : Nat) : Prop :=
  (t = 85 → smOk MB f d = true) ∧ (t = 79 → cpOk MB (smOk MB f) d = true) ∧ (t = 60 → cxOk MB (smOk MB f) d = true) ∧
  (t = 77 → ∃ l, d = .list l ∧ l.length ≤ MB ∧ ∀ s ∈ l, smOk MB f s = true) ∧ (t = 58 → ∃ l, d = .list l ∧ l.length ≤ MB ∧ ∀ s ∈ l, cpOk MB (smOk MB f) s = true) ∧ (t = 23 → ∃ l, d = .list l ∧ lsOk MB (smOk MB f) l = true)
theorem Sel.up {t : TypeId} {d : D} {i j : Nat} (h : Sel t d i) (hij : i ≤ j) : Sel t d j := by
  obtain ⟨h1, h2, h3, h4, h5, h6⟩ := h
  have hm : ∀ d, smOk MB i d = true → smOk MB j d = true := fun d hd => smOk_up i d hd j hij
  refine ⟨fun e => hm _ (h1 e), fun e => cp_mono hm (h2 e), fun e => cx_mono hm (h3 e), fun e => ?_, fun e => ?_, fun e => ?_⟩
  · obtain ⟨l, a, b, c⟩ := h4 e
    exact ⟨l, a, b, fun s hs => hm _ (c s hs)⟩
  · obtain ⟨l, a, b, c⟩ := h5 e
    exact ⟨l, a, b, fun s hs => cp_mono hm (c s hs)⟩
  · obtain ⟨l, a, b⟩ := h6 e
    exact ⟨l, a, ls_mono hm b⟩
theorem fts (t : TypeId) (ts : List TypeId) {fs : Array Field} (hu : Tryz.prog.underlying t = some (.struct fs)) (h : fieldTs Tryz.prog t = some ts) : fs.toList.map (·.type) = ts := by
  unfold fieldTs at h
  rw [hu] at h
  exact Option.some.inj h
theorem sel_ok {t : TypeId} {d : D} (h : TyD Tryz.prog t d) : ∃ f, Sel t d f := by
  induction h with
  | bool t b hu => exact ⟨0, fun e => (by subst e; rw [show Tryz.prog.underlying 85 = _ from Tryz.underlying85] at hu; cases hu), fun e => (by subst e; rw [show Tryz.prog.underlying 79 = _ from Tryz.underlying79] at hu; cases hu), fun e => (by subst e; rw [show Tryz.prog.underlying 60 = _ from Tryz.underlying60] at hu; cases hu), fun e => (by subst e; rw [Tryz.underlying77] at hu; cases hu), fun e => (by subst e; rw [Tryz.underlying58] at hu; cases hu), fun e => (by subst e; rw [Tryz.underlying23] at hu; cases hu)⟩
  | int t k n hu _ => exact ⟨0, fun e => (by subst e; rw [Tryz.underlying85] at hu; cases hu), fun e => (by subst e; rw [Tryz.underlying79] at hu; cases hu), fun e => (by subst e; rw [Tryz.underlying60] at hu; cases hu), fun e => (by subst e; rw [Tryz.underlying77] at hu; cases hu), fun e => (by subst e; rw [Tryz.underlying58] at hu; cases hu), fun e => (by subst e; rw [Tryz.underlying23] at hu; cases hu)⟩
  | str t l hu _ => exact ⟨0, fun e => (by subst e; rw [Tryz.underlying85] at hu; cases hu), fun e => (by subst e; rw [Tryz.underlying79] at hu; cases hu), fun e => (by subst e; rw [Tryz.underlying60] at hu; cases hu), fun e => (by subst e; rw [Tryz.underlying77] at hu; cases hu), fun e => (by subst e; rw [Tryz.underlying58] at hu; cases hu), fun e => (by subst e; rw [Tryz.underlying23] at hu; cases hu)⟩
  | list t e es hu hl _ ih =>
    obtain ⟨f, hf⟩ := max_of (R := fun d f => Sel e d f) (fun a i j h hij => h.up hij) es ih
    have hl' : es.length * Tryz.prog.bytesOf e ≤ 140737488355328 := Nat.le_trans hl reach_le
    refine ⟨f, fun e => (by subst e; rw [Tryz.underlying85] at hu; cases hu), fun e => (by subst e; rw [Tryz.underlying79] at hu; cases hu), fun e => (by subst e; rw [Tryz.underlying60] at hu; cases hu), fun e0 => ?_, fun e0 => ?_, fun e0 => ?_⟩
    · subst e0
      rw [Tryz.underlying77] at hu
      cases hu
      exact ⟨es, rfl, le_of_mul hl' (by decide +kernel), fun s hs => (hf s hs).1 rfl⟩
    · subst e0
      rw [Tryz.underlying58] at hu
      cases hu
      exact ⟨es, rfl, le_of_mul hl' (by decide +kernel), fun s hs => (hf s hs).2.1 rfl⟩
    · subst e0
      rw [Tryz.underlying23] at hu
      cases hu
      refine ⟨es, rfl, ?_⟩
      simp only [lsOk, lenB, Bool.and_eq_true, decide_eq_true_eq, List.all_eq_true]
      exact ⟨le_of_mul hl' (by decide +kernel), fun s hs => (hf s hs).2.2.1 rfl⟩
  | agg t fs ds hu hl hds ih =>
    have hty : TyD Tryz.prog t (.agg (ds.flatMap dcells)) := .agg t fs ds hu hl hds
    have at_ : ∀ (ts : List TypeId), fieldTs Tryz.prog t = some ts → ds.length = ts.length ∧ ∀ (i : Nat) (u : TypeId) (d : D), ts[i]? = some u → ds[i]? = some d → TyD Tryz.prog u d ∧ ∃ f, Sel u d f := by
      intro ts hts
      have e := fts t ts hu hts
      refine ⟨by rw [hl, ← e]; simp, fun i u d hi hd => ?_⟩
      rw [← e, List.getElem?_map] at hi
      obtain ⟨f, hf1, rfl⟩ := Option.map_eq_some_iff.1 hi
      exact ⟨hds i f d (by simpa using hf1) hd, ih i f d (by simpa using hf1) hd⟩
    by_cases t42 : t = 85
    · subst t42
      obtain ⟨hlen, hh⟩ := at_ [3, 3, 9, 9, 81, 3, 83, 23] (by kernel_rfl)
      match ds, hlen with
      | [x0, x1, x2, x3, x4, x5, x6, x7], _ =>
        obtain ⟨kd, rfl, _⟩ := int_ok Tryz.underlying3 (hh 0 _ _ rfl rfl).1
        obtain ⟨ns, rfl, _⟩ := int_ok Tryz.underlying3 (hh 1 _ _ rfl rfl).1
        obtain ⟨pre, rfl, h2⟩ := str_ok Tryz.underlying9 (hh 2 _ _ rfl rfl).1
        obtain ⟨nm, rfl, h3⟩ := str_ok Tryz.underlying9 (hh 3 _ _ rfl rfl).1
        obtain ⟨cd, rfl, c1, c2⟩ := agg_ok' (ts := [3, 9, 4]) (by kernel_rfl) (hh 4 _ _ rfl rfl).1
        obtain ⟨mk, rfl, _⟩ := int_ok Tryz.underlying3 (hh 5 _ _ rfl rfl).1
        obtain ⟨ad, rfl, a1, a2⟩ := agg_ok' (ts := [3, 3]) (by kernel_rfl) (hh 6 _ _ rfl rfl).1
        obtain ⟨f, hf⟩ := (hh 7 _ _ rfl rfl).2
        obtain ⟨l, rfl, hls⟩ := hf.2.2.2.2.2 rfl
        match cd, c1, ad, a1 with
        | [y0, y1, y2], _, [z0, z1], _ =>
          obtain ⟨op, rfl, _⟩ := int_ok Tryz.underlying3 (c2 0 _ _ rfl rfl)
          obtain ⟨tx, rfl, h5⟩ := str_ok Tryz.underlying9 (c2 1 _ _ rfl rfl)
          obtain ⟨fold, rfl⟩ := bool_ok Tryz.underlying4 (c2 2 _ _ rfl rfl)
          obtain ⟨a, rfl, _⟩ := int_ok Tryz.underlying3 (a2 0 _ _ rfl rfl)
          obtain ⟨b, rfl, _⟩ := int_ok Tryz.underlying3 (a2 1 _ _ rfl rfl)
          refine ⟨f + 1, fun _ => ?_, fun e => (by cases e), fun e => (by cases e), fun e => (by cases e), fun e => (by cases e), fun e => (by cases e)⟩
          show (decide (pre.length ≤ MB) && decide (nm.length ≤ MB) && decide (tx.length ≤ MB) && lsOk MB (smOk MB f) l) = true
          simp only [Bool.and_eq_true, decide_eq_true_eq]
          exact ⟨⟨⟨h2, h3⟩, h5⟩, hls⟩
    · by_cases t45 : t = 79
      · subst t45
        obtain ⟨hlen, hh⟩ := at_ [3, 77] (by kernel_rfl)
        match ds, hlen with
        | [x0, x1], _ =>
          obtain ⟨cc, rfl, _⟩ := int_ok Tryz.underlying3 (hh 0 _ _ rfl rfl).1
          obtain ⟨f, hf⟩ := (hh 1 _ _ rfl rfl).2
          obtain ⟨l, rfl, h1, h2⟩ := hf.2.2.2.1 rfl
          refine ⟨f, fun e => (by cases e), fun _ => ?_, fun e => (by cases e), fun e => (by cases e), fun e => (by cases e), fun e => (by cases e)⟩
          show (decide (l.length ≤ MB) && l.all (smOk MB f)) = true
          simp only [Bool.and_eq_true, decide_eq_true_eq, List.all_eq_true]
          exact ⟨h1, h2⟩
      · by_cases t48 : t = 60
        · subst t48
          obtain ⟨hlen, hh⟩ := at_ [58] (by kernel_rfl)
          match ds, hlen with
          | [x0], _ =>
            obtain ⟨f, hf⟩ := (hh 0 _ _ rfl rfl).2
            obtain ⟨l, rfl, h1, h2⟩ := hf.2.2.2.2.1 rfl
            refine ⟨f, fun e => (by cases e), fun e => (by cases e), fun _ => ?_, fun e => (by cases e), fun e => (by cases e), fun e => (by cases e)⟩
            show (decide (l.length ≤ MB) && l.all (cpOk MB (smOk MB f))) = true
            simp only [Bool.and_eq_true, decide_eq_true_eq, List.all_eq_true]
            exact ⟨h1, h2⟩
        · refine ⟨0, fun e => absurd e t42, fun e => absurd e t45, fun e => absurd e t48, fun e => ?_, fun e => ?_, fun e => ?_⟩
          · subst e; rw [Tryz.underlying77] at hu; cases hu
          · subst e; rw [Tryz.underlying58] at hu; cases hu
          · subst e; rw [Tryz.underlying23] at hu; cases hu
theorem sels_ok {d : D} (h : TyD Tryz.prog 23 d) : ∃ f l, d = .list l ∧ lsOk MB (smOk MB f) l = true := by
  obtain ⟨f, hf⟩ := sel_ok h
  obtain ⟨l, h1, h2⟩ := hf.2.2.2.2.2 rfl
  exact ⟨f, l, h1, h2⟩
def us12 : List TypeId := [3, 4, 9, 24, 50, 46, 48, 22, 81, 83, 85, 77, 79, 58, 60, 23, 26, 33]
theorem us12_ok : okTs Tryz.prog us12 = true := by kernel_rfl
end
def laid6 : List (String × DataW Unit) := Rows.plantThinsRow.laid
def nmE : String := (laid6.map (·.1)).getD 1 default
theorem et : Tryz.prog.globalNamed nmE = some 0 := by kernel_rfl
theorem rt : (Tryz.prog.cutTypes.find? (·.1 == (match Rows.laid_errors_errorType (H := Unit) with | .iface s _ => s | _ => default))).map (·.2) = some 119 := by kernel_rfl
theorem oneRow : ((List.range 186).filter fun t => Tryz.prog.rowNamed t [101, 114, 114, 111, 114]) = [36] := by kernel_rfl
theorem size : Tryz.prog.types.size = 186 := by kernel_rfl
theorem parts {W : World} (h : laidMetH Tryz.prog laid6 W) : laidMet Tryz.prog laid11 W ∧ handlesMet Tryz.prog [(nmE, Rows.laid_errors_errorType)] W := h
theorem handle_of_laid {W : World} (h : laidMetH Tryz.prog laid6 W) : ErrT W := by
  obtain ⟨name, u, ty, e1, e2, e3, e4, e5⟩ := (parts h).2 _ (List.mem_singleton.2 rfl)
  have en : name = [101, 114, 114, 111, 114] := (Option.some.inj e1).symm
  subst en
  obtain rfl := Option.some.inj (rt.symm.trans e2)
  have hm : ty ∈ (List.range 186).filter fun t => Tryz.prog.rowNamed t [101, 114, 114, 111, 114] := List.mem_filter.2 ⟨List.mem_range.2 (by rw [← size]; exact e3), e4⟩
  rw [oneRow] at hm
  obtain rfl := List.mem_singleton.1 hm
  have hh : typeHandle Tryz.prog 36 = .pointer (some ⟨4, 36, none⟩) := by kernel_rfl
  rw [hh] at e5
  have := World.var?_cell et e5 0
  unfold ErrT
  simpa using this
noncomputable def w6 (os : Os) : World :=
  let w0 := World.holding Tryz.prog os ⟨#[], #[], []⟩
  { w0 with heap := w0.heap.modify 0 fun
      | .cells _ t frozen => .cells #[.iface 119 (.agg #[.pointer (some ⟨4, 36, none⟩)])] t frozen
      | o => o }
noncomputable def laidWorld (os : Os) : World := (w6 os).layVars Tryz.prog laid11
theorem laidWorld_os (os : Os) : (laidWorld os).os = os := World.layVars_os _ _ _
theorem laidWorld_plain (os : Os) (args : Array Value) : laidMet Tryz.prog laid11 ((laidWorld os).forCall (fun _ _ => 0) ⟨#[], args, []⟩).memory := by
  have e1 : (laid11.filter fun x => (laid11.map (·.1)).contains x.1) = laid11 := List.filter_eq_self.2 fun x hx => List.contains_iff_mem.2 (List.mem_map.2 ⟨x, hx, rfl⟩)
  have e2 : (laid11.filter fun x => !(laid11.map (·.1)).contains x.1) = [] := List.filter_eq_nil_iff.2 fun x hx => by rw [List.contains_iff_mem.2 (List.mem_map.2 ⟨x, hx, rfl⟩)]; simp
  have hf : (w6 os).layFits Tryz.prog laid11 [] = true := by kernel_rfl
  have hi : (w6 os).layIfaces Tryz.prog laid11 (laidWorld os) = true := by kernel_rfl
  have h : laidMet Tryz.prog laid11 (laidWorld os) := laidMet_layVars (w0 := w6 os) (laid11.map (·.1)) [] (by rw [e1]; rfl) (by rw [e1]; exact hf) (by rw [e1]; exact hi) (by rw [e2]; exact LaidIn.none)
  exact h.of_heap (by simp [World.memory, World.forCall, Input.heap])
theorem laidWorld_met (os : Os) (args : Array Value) : laidMetH Tryz.prog laid6 ((laidWorld os).forCall (fun _ _ => 0) ⟨#[], args, []⟩).memory :=
  laidMetH_of_parts (laidWorld_plain os args) (by kernel_rfl)
abbrev ekYes : Rk := ⟨true⟩
end Go.Proofs.YtaghfmgeccapbaaGreatDoor
