/- The evaluator, in one text: over any program; no conditions but those that each law names. -/
import Derived.Test.YtcogfddcdpgpkaaGreatDoorAvuf
import Derived.Test.YtcogfddcdpgpkaaGreatDoorAvuc
import Derived.Test.YtcogfddcdpgpkaaGreatDoorAvud
import Derived.Test.YtcogfddcdpgpkaaGreatDoorAvue
import Derived.Test.YtcogfddcdpgpkaaGreatDoorAvb
set_option linter.unusedSimpArgs false
set_option linter.unusedVariables false
set_option linter.unusedSectionVars false
set_option maxRecDepth 100000
namespace Go.Av
open Go.Proofs
variable [Rk] {chk : List D → Bool}
theorem row_snoc {ns : List Nd} {n : Int} (he : elB ns n = true) : rowI ns n = rowL ns (pAt ns n.toNat) n.toNat ++ [n] := by
 obtain ⟨h0, h1, hk⟩ := elB_nat he
 unfold rowI
 rw [if_pos he, rowL_succ hk]
 rw [show ((n.toNat : Nat) : Int) = n by omega]
set_option maxHeartbeats 8000000 in
theorem stands2_L (ns : List Nd) (a b : Int) (hb : elB ns b = true) (ha : 0 ≤ a) :
  callL Tryz.prog (ext11b chk) 47 [.list (ns.map Nd.d), .int .i64 a, .int .i64 b, .int .i64 2] [] = some (.bool ((parI ns b).2 && (parI ns b).1 == a), [.no], []) := by
 have lN := lenM ns Nd.d
 have hv : ((parI ns b).2 && (parI ns b).1 == a) = (pAt ns b.toNat == a) := by
  unfold parI
  by_cases h : 0 ≤ pAt ns b.toNat
  ·rw [if_pos ⟨hb, h⟩]; simp
  ·rw [if_neg (fun e => h e.2)]
   have : (pAt ns b.toNat == a) = false := by rw [beq_eq_false_iff_ne]; omega
   rw [this]; rfl
 rw [hv]
 obtain ⟨i, x, rfl, hi, hx, hp, hk, hg⟩ := nd_at hb
 have g1 : (i : Int) < ns.length := by omega
 rw [Int.toNat_natCast, hp]
 clear hx hk hv hb hp
 generalize x.at_.map At.d = XA at *
 generalize x.st.map D.str = XS at *
 exact cWy 73 8 Tryz.func47
set_option maxHeartbeats 8000000 in
theorem stands3_L (ns : List Nd) (a b : Int) (hS : ns.length ≤ 10000) (hb : elB ns b = true) :
  callL Tryz.prog (ext11b chk) 47 [.list (ns.map Nd.d), .int .i64 a, .int .i64 b, .int .i64 3] [] = some (.bool ((ahdI ns b).2 && (ahdI ns b).1 == a), [.no], []) := by
 have hr := rrow_L (chk := chk) ns b hS
 have hs := row_snoc hb
 have hlen := rowL_len (ns := ns) (key := pAt ns b.toNat) (m := b.toNat)
 have hbl : b.toNat ≤ 10000 := by have := (elB_nat hb).2.1; omega
 unfold ahdI
 rw [if_pos hb]
 rw [hs] at hr
 generalize rowL ns (pAt ns b.toNat) b.toNat = P at *
 generalize roomOf (P ++ [b]) = rm at *
 generalize ns.map Nd.d = L at *
 clear hs hb hS
 have lN := lenM (P ++ [b]) (D.int .i64)
 have hl2 : ((P ++ [b]).length : Int) = P.length + 1 := by simp
 cases hL : P.getLast? with
 | none =>
  rw [List.getLast?_eq_none_iff] at hL
  subst hL
  have g1 : ¬ (1 : Int) < ((([] : List Int) ++ [b]).length : Int) := by simp
  dsimp only
  rw [Bool.false_and]
  clear hl2 hlen hbl
  generalize ([] : List Int) ++ [b] = Q at *
  exact cWy 73 8 Tryz.func47
 | some z =>
  have hp0 : P.length ≠ 0 := by rintro e; rw [List.eq_nil_of_length_eq_zero e] at hL; simp at hL
  have g1 : (1 : Int) < ((P ++ [b]).length : Int) := by omega
  have hw : IntKind.i64.wrap (((P ++ [b]).length : Int) - 2) = ((P.length - 1 : Nat) : Int) := by rw [hl2, wrap64 _ (by omega) (by omega)]; omega
  have g2 : ((P.length - 1 : Nat) : Int) < ((P ++ [b]).length : Int) := by omega
  have g3 : (0 : Int) ≤ ((P.length - 1 : Nat) : Int) := by omega
  have hg : ((P ++ [b]).map (D.int .i64)).getD (P.length - 1) .bad = .int .i64 z := by
   rw [List.getLast?_eq_getElem?] at hL
   have : (P ++ [b])[P.length - 1]? = some z := by rw [List.getElem?_append_left (by omega)]; exact hL
   exact getD_map (f := D.int .i64) this
  dsimp only
  rw [Bool.true_and]
  clear hl2 hlen hbl hL hp0
  generalize P.length - 1 = k at *
  generalize P ++ [b] = Q at *
  exact cWy 73 8 Tryz.func47
set_option maxHeartbeats 8000000 in
theorem stands4_L (ns : List Nd) (a b comb : Int) (hS : ns.length ≤ 10000) (hb : elB ns b = true) (h1 : comb ≠ 1) (h2 : comb ≠ 2) (h3 : comb ≠ 3) :
  callL Tryz.prog (ext11b chk) 47 [.list (ns.map Nd.d), .int .i64 a, .int .i64 b, .int .i64 comb] [] = some (.bool (comb == 4 && (rowI ns b).dropLast.any (· == a)), [.no], []) := by
 have hr := rrow_L (chk := chk) ns b hS
 have hs := row_snoc hb
 have hlen := rowL_len (ns := ns) (key := pAt ns b.toNat) (m := b.toNat)
 have hbl : b.toNat ≤ 10000 := by have := (elB_nat hb).2.1; omega
 have hd : (rowI ns b).dropLast = rowL ns (pAt ns b.toNat) b.toNat := by rw [hs]; simp
 rw [hd]
 rw [hs] at hr
 clear hd hs hS hb
 generalize rowL ns (pAt ns b.toNat) b.toNat = P at *
 generalize roomOf (P ++ [b]) = rm at *
 generalize ns.map Nd.d = L at *
 have lN := lenM (P ++ [b]) (D.int .i64)
 have hw : IntKind.i64.wrap (((P ++ [b]).length : Int) - 1) = (P.length : Int) := by
  have : ((P ++ [b]).length : Int) = P.length + 1 := by simp
  rw [this, wrap64 _ (by omega) (by omega)]; omega
 have hg : ∀ (i : Nat) (z : Int), P[i]? = some z → ((P ++ [b]).map (D.int .i64)).getD i .bad = .int .i64 z ∧ (i : Int) < ((P ++ [b]).length : Int) := fun i z h => by
  have hi := (List.getElem?_eq_some_iff.1 h).1
  refine ⟨getD_map (f := D.int .i64) (by rw [List.getElem?_append_left hi]; exact h), by simp; omega⟩
 have HG := Hd.mk hg
 have HL := Hd.mk (show P.length ≤ 10000 by omega)
 clear hg hlen hbl
 generalize P ++ [b] = Q at *
 obtain ⟨i1, i2, i3⟩ := neI h1
 obtain ⟨j1, j2, j3⟩ := neI h2
 obtain ⟨l1, l2, l3⟩ := neI h3
 clear h1 h2 h3
 obtain ⟨R, hRe⟩ : ∃ R, Hd (R = (comb == 4 && P.any (· == a))) := ⟨_, rfl⟩
 rw [← (show R = (comb == 4 && P.any (· == a)) from hRe)]
 refine cK 73 8 Tryz.func47 ?_
 refine Gy ?_
 clear hr i1 i2 i3 j1 j2 j3 l1 l2 l3
 refine loopH (fun st => ∃ i : Nat, i ≤ P.length ∧ st.slot 11 = .int .i64 i ∧ st.slot 10 = .list (Q.map (D.int .i64)) ∧ st.slot 1 = .int .i64 a ∧ st.slot 3 = .int .i64 comb ∧ Hd (R = (comb == 4 && (P.drop i).any (· == a)))) (fun st => P.length - slotI st 11) ?_ ?_
 ·exact ⟨0, Nat.zero_le _, Iy, Iy, Iy, Iy, hRe⟩
 ·rintro st K ⟨i, hi, g11, g10, g1, g3, hO⟩ hn hx hr
  have hO' : R = (comb == 4 && (P.drop i).any (· == a)) := hO
  have hl : P.length ≤ 10000 := HL
  by_cases h : i < P.length
  ·have k9 : (i : Int) < P.length := by omega
   have hw2 := wrapS i (by omega)
   obtain ⟨z, hz⟩ := some_at h
   obtain ⟨q1, q2⟩ := (show ∀ (i : Nat) (z : Int), P[i]? = some z → _ from HG) i z hz
   rw [any_drop _ hz] at hO'
   cases hza : (z == a) with
   | true =>
    rw [hza, Bool.true_or, Bool.and_true] at hO'
    cases h4 : (comb == 4) with
    | true =>
     rw [h4] at hO'
     subst hO'
     clear hn hx hO hRe hz hl h
     refine Gy ?_
     exact hr _ Wy
    | false =>
     rw [h4] at hO'
     have HO := Hd.mk (show R = (comb == 4 && (P.drop (i + 1)).any (· == a)) by rw [h4]; exact hO')
     clear hr hx hO hO' hRe hz hl
     refine Gy ?_
     refine hn _ ⟨i + 1, h, ?_, ?_, ?_, ?_, HO⟩ ?_
     ·simp only [*, AVL, ↓reduceIte, Nat.reduceEqDiff, Nat.reduceLT, Nat.reduceLeDiff, reduceCtorEq]
     ·simp only [*, AVL, ↓reduceIte, Nat.reduceEqDiff, Nat.reduceLT, Nat.reduceLeDiff, reduceCtorEq]
     ·simp only [*, AVL, ↓reduceIte, Nat.reduceEqDiff, Nat.reduceLT, Nat.reduceLeDiff, reduceCtorEq]
     ·simp only [*, AVL, ↓reduceIte, Nat.reduceEqDiff, Nat.reduceLT, Nat.reduceLeDiff, reduceCtorEq]
     ·exact Zy
   | false =>
    rw [hza, Bool.false_or] at hO'
    have HO := Hd.mk hO'
    clear hr hx hO hO' hRe hz hl
    refine Gy ?_
    refine hn _ ⟨i + 1, h, ?_, ?_, ?_, ?_, HO⟩ ?_
    ·simp only [*, AVL, ↓reduceIte, Nat.reduceEqDiff, Nat.reduceLT, Nat.reduceLeDiff, reduceCtorEq]
    ·simp only [*, AVL, ↓reduceIte, Nat.reduceEqDiff, Nat.reduceLT, Nat.reduceLeDiff, reduceCtorEq]
    ·simp only [*, AVL, ↓reduceIte, Nat.reduceEqDiff, Nat.reduceLT, Nat.reduceLeDiff, reduceCtorEq]
    ·simp only [*, AVL, ↓reduceIte, Nat.reduceEqDiff, Nat.reduceLT, Nat.reduceLeDiff, reduceCtorEq]
    ·exact Zy
  ·have k9 : ¬ (i : Int) < P.length := by omega
   rw [any_end _ (by omega), Bool.and_false] at hO'
   subst hO'
   clear hn hr hO hRe hl h
   refine Gy ?_
   exact hx _ _ Wy
theorem stands_L (ns : List Nd) (a b comb : Int) (hS : ns.length ≤ 10000) (hR : RightT ns) (hb : elB ns b = true) (ha : 0 ≤ a) :
  callL Tryz.prog (ext11b chk) 47 [.list (ns.map Nd.d), .int .i64 a, .int .i64 b, .int .i64 comb] [] = some (.bool (standsF ns (b.toNat + 1) a b comb), [.no], []) := by
 unfold standsF
 by_cases h2 : comb = 2
 ·subst h2; rw [if_pos rfl]; exact stands2_L ns a b hb ha
 rw [if_neg h2]
 by_cases h1 : comb = 1
 ·subst h1; rw [if_pos rfl]; exact stands1_L ns a b hS hR hb
 rw [if_neg h1]
 by_cases h3 : comb = 3
 ·subst h3; rw [if_pos rfl]; exact stands3_L ns a b hS hb
 rw [if_neg h3]
 exact stands4_L ns a b comb hS hb h1 h2 h3
end Go.Av
namespace Go.Av
open Go.Proofs
variable [Rk] {chk : List D → Bool}
theorem nd_any {ns : List Nd} {i : Nat} (hi : i < ns.length) : ∃ x : Nd, ns[i]? = some x ∧ kAt ns i = x.k ∧ (ns.map Nd.d).getD i .bad = .agg [.int .i64 x.p, .int .i64 x.k, .str x.sp, .str x.nm, .list (x.at_.map At.d), .list (x.st.map .str), .str x.tx] := by
 obtain ⟨x, hx⟩ := some_at hi
 refine ⟨x, hx, by unfold kAt; rw [hx], ?_⟩
 have := getD_map (f := Nd.d) hx
 rw [ndat] at this
 exact this
theorem all_drop {α : Type} {xs : List α} {i : Nat} {x : α} (f : α → Bool) (hx : xs[i]? = some x) : (xs.drop i).all f = (f x && (xs.drop (i + 1)).all f) := by
 rw [drop_at hx, List.all_cons]
theorem all_end {α : Type} {xs : List α} {i : Nat} (f : α → Bool) (h : xs.length ≤ i) : (xs.drop i).all f = true := by
 rw [List.drop_eq_nil_of_le h]
 rfl
def fitK (p : Int → Bool) (k : Nat) : List Int := ((List.range k).map (Int.ofNat ·)).filter p
theorem fitK_succ (p : Int → Bool) (k : Nat) : fitK p (k + 1) = fitK p k ++ (if p (k : Int) = true then [(k : Int)] else []) := by
 unfold fitK
 rw [List.range_succ, List.map_append, List.filter_append]
 congr 1
 show List.filter p [Int.ofNat k] = _
 by_cases h : p (k : Int) = true
 ·rw [if_pos h]; exact List.filter_cons_of_pos (by exact h)
 ·rw [if_neg h]; exact List.filter_cons_of_neg (by exact h)
def fitP (S : D → Int → Bool) (ns : List Nd) (first : Bool) (fit : List Int) (cc : Int) (sl : List D) (k : Int) : Bool := kAt ns k.toNat == 1 && sl.all (S · k) && (first || fit.any fun m => standsF ns (k.toNat + 1) m k cc)
theorem fitStep_K (S : D → Int → Bool) (ns : List Nd) (node : Nat) (first : Bool) (fit : List Int) (cc : Int) (sl : List D) : fitStep S ns node first fit (.agg [.int .i64 cc, .list sl]) = fitK (fitP S ns first fit cc sl) (node + 1) := rfl
theorem fitK_ok (p : Int → Bool) (k : Nat) : (fitK p k).length ≤ k ∧ ∀ m ∈ fitK p k, 0 ≤ m := by
 unfold fitK
 refine ⟨Nat.le_trans (List.length_filter_le _ _) (by simp), fun m hm => ?_⟩
 have := (List.mem_filter.1 hm).1
 obtain ⟨j, _, rfl⟩ := List.mem_map.1 this
 exact Int.natCast_nonneg j
theorem getLast_map (l : List Int) (h : l ≠ []) : ∃ z, l.getLast? = some z ∧ (l.map (D.int .i64)).getD (l.length - 1) .bad = .int .i64 z := by
 cases hL : l.getLast? with
 | none => rw [List.getLast?_eq_none_iff] at hL; exact absurd hL h
 | some z =>
  rw [List.getLast?_eq_getElem?] at hL
  exact ⟨z, rfl, getD_map (f := D.int .i64) hL⟩
set_option maxHeartbeats 32000000 in
theorem rcomplex_L (ns : List Nd) (nm : Nam) (X : List D) (node : Nat) (hS : ns.length ≤ 10000) (hR : RightT ns) (he : elB ns node = true) (S : D → Int → Bool) (hX0 : X ≠ []) (hXl : X.length ≤ 100)
  (hX : ∀ x ∈ X, x = .agg [.int .i64 (cpC x), .list (cpL x)] ∧ (cpL x).length ≤ 100 ∧ ∀ s ∈ cpL x, s = (sf s).d ∧ ∀ j, elB ns j = true → callL Tryz.prog (ext11b chk) 18 [.list (ns.map Nd.d), (sf s).d, .agg nm.cs, .int .i64 j] [] = some (.bool (S s j), [.no], []))
  (ps : List UInt8) (hp : callL Tryz.prog (ext11b chk) 46 [.agg [.list X]] [] = some (.str ps, [.no], [])) :
  callL Tryz.prog (ext11b chk) 21 [.list (ns.map Nd.d), .agg [.list X], .agg nm.cs, .agg [.int .i64 (node : Int), .str ps]] [] = some (.bool ((fitAll S ns node true [] X).getLast? == some (node : Int)), [.no], []) := by
 have hE := relem_L (chk := chk) ns node
 rw [he] at hE
 have lN := lenM ns Nd.d
 have hnode := (elB_nat he).2.1
 have hst : ∀ a b comb : Int, elB ns b = true → 0 ≤ a → _ := fun a b comb h1 h2 => stands_L (chk := chk) ns a b comb hS hR h1 h2
 have HST := Hd.mk hst
 have HX := Hd.mk hX
 have HS := Hd.mk hS
 have HXL := Hd.mk hXl
 have HND := Hd.mk hnode
 have hna : ∀ i, i < ns.length → _ := fun i hi => nd_any (ns := ns) (i := i) hi
 have HNA := Hd.mk hna
 have hx0 : ((X.length : Int) == 0) = false := ne0 (fun e => hX0 (List.eq_nil_of_length_eq_zero e))
 clear hst hX hX0 hXl hR he hna hnode hS
 unfold Nam.cs at *
 obtain ⟨R, hRe⟩ : ∃ R, Hd (R = ((fitAll S ns node true [] X).getLast? == some (node : Int))) := ⟨_, rfl⟩
 rw [← (show R = ((fitAll S ns node true [] X).getLast? == some (node : Int)) from hRe)]
 refine cK 134 8 Tryz.func21 ?_
 refine Qy ?_
 clear hx0 hE hp
 refine loopH (fun st => ∃ (i : Nat) (fit : List Int) (r5 r6 r7 : List Room), i ≤ X.length ∧ st.slot 10 = .int .i64 i ∧ st.slot 0 = .list (ns.map Nd.d) ∧ st.slot 5 = .ptr 5 1 0 ∧ st.box 5 = some ⟨1, [.list X], r5⟩ ∧ st.slot 6 = .ptr 6 1 0 ∧ st.box 6 = some ⟨1, [.bool nm.has, .str nm.dft, .list (nm.pre.map .str), .list (nm.sps.map .str)], r6⟩ ∧ st.slot 7 = .ptr 7 1 0 ∧ st.box 7 = some ⟨1, [.int .i64 (node : Int), .str ps], r7⟩ ∧ st.slot 9 = .list (fit.map (D.int .i64)) ∧ Hd (fit.length ≤ 20000 ∧ ∀ m ∈ fit, 0 ≤ m) ∧ Hd (R = ((fitAll S ns node (i == 0) fit (X.drop i)).getLast? == some (node : Int)))) (fun st => X.length - slotI st 10) ?_ ?_
 ·exact ⟨0, [], (padR [] 1).take 1, (padR [] 4).take 4, (padR [] 2).take 2, Nat.zero_le _, Iy, Iy, Iy, Iy, Iy, Iy, Iy, Iy, Iy, Hd.mk ⟨by simp, fun m h => by cases h⟩, hRe⟩
 ·rintro st K ⟨i, fit, r5, r6, r7, hi, g10, g0, g5, b5, g6, b6, g7, b7, g9, hfit, hO⟩ hn hx hr
  have hO' : R = ((fitAll S ns node (i == 0) fit (X.drop i)).getLast? == some (node : Int)) := hO
  have hxl : X.length ≤ 100 := HXL
  by_cases h : i < X.length
  ·have k10 : (i : Int) < X.length := by omega
   have hw := wrapS i (by omega)
   obtain ⟨x, hx1⟩ := some_at h
   obtain ⟨e1, e2, e3⟩ := (show ∀ x ∈ X, _ from HX) x (List.mem_of_getElem? hx1)
   have hg := (self_getD hx1).trans e1
   rw [drop_at hx1, fitAll, e1, fitStep_K] at hO'
   generalize cpL x = Y at *
   generalize cpC x = cc at *
   obtain ⟨b0, hb0⟩ : ∃ b0, (i == 0) = b0 := ⟨_, rfl⟩
   have hi0 : ((i : Int) == 0) = b0 := by rw [← hb0, Bool.eq_iff_iff, beq_iff_eq, beq_iff_eq]; omega
   rw [hb0] at hO'
   have hP : ∀ k : Nat, fitP S ns b0 fit cc Y (k : Int) = ((kAt ns k == 1 && Y.all (S · (k : Int))) && (b0 || fit.any fun m => standsF ns (k + 1) m k cc)) := fun k => by unfold fitP; rw [Int.toNat_natCast]
   generalize fitP S ns b0 fit cc Y = P at *
   have HP := Hd.mk hP
   have HI := Hd.mk h
   have HY := Hd.mk e3
   have HYL := Hd.mk e2
   have HO := Hd.mk hO'
   clear hO hO' hx hx1 e1 e2 e3 h hxl hRe hr hP hb0
   refine Gy ?_
   refine loopH (fun st' => ∃ (k : Nat) (r5 r6 r7 : List Room), k ≤ node + 1 ∧ st'.slot 12 = .int .i64 k ∧ st'.slot 10 = .int .i64 i ∧ st'.slot 0 = .list (ns.map Nd.d) ∧ st'.slot 5 = .ptr 5 1 0 ∧ st'.box 5 = some ⟨1, [.list X], r5⟩ ∧ st'.slot 6 = .ptr 6 1 0 ∧ st'.box 6 = some ⟨1, [.bool nm.has, .str nm.dft, .list (nm.pre.map .str), .list (nm.sps.map .str)], r6⟩ ∧ st'.slot 7 = .ptr 7 1 0 ∧ st'.box 7 = some ⟨1, [.int .i64 (node : Int), .str ps], r7⟩ ∧ st'.slot 9 = .list (fit.map (D.int .i64)) ∧ st'.slot 11 = .list ((fitK P k).map (D.int .i64)) ∧ st'.room 11 = [roomOf (fitK P k)]) (fun st' => node + 1 - slotI st' 12) ?_ ?_
   ·exact ⟨0, r5, r6, r7, Nat.zero_le _, Iy, Iy, Iy, Iy, Iy, Iy, Iy, Iy, Iy, Iy, Iy, Iy⟩
   ·rintro st' K' ⟨k, r5', r6', r7', hk, f12, f10, f0, f5, c5, f6, c6, f7, c7, f9, f11, n11⟩ hn2 hx2 hr2
    have G10 := Hd.mk g10
    clear g10 g0 g5 b5 g6 b6 g7 b7 g9
    by_cases h : k < node + 1
    ·have k12 : (k : Int) ≤ (node : Int) := by omega
     have hnl : (node : Int) < ns.length := HND
     have hnS : ns.length ≤ 10000 := HS
     have k13 : (k : Int) < ns.length := by omega
     have hw2 := wrapS k (by omega)
     obtain ⟨nx, hnx, hkk, hgn⟩ := (show ∀ i, i < ns.length → _ from HNA) k (by omega)
     have hsucc := fitK_succ P k
     have hPk := (show ∀ k : Nat, P (k : Int) = _ from HP) k
     obtain ⟨T, hT⟩ : ∃ T, (kAt ns k == 1 && Y.all (S · (k : Int))) = T := ⟨_, rfl⟩
     rw [hT] at hPk
     rw [hkk] at hT
     have HT := Hd.mk hT
     have HPK := Hd.mk hPk
     have HK := Hd.mk h
     have HSU := Hd.mk hsucc
     have HEK := Hd.mk (show nx.k = 1 → elB ns (k : Int) = true from fun e => by
      unfold elB
      rw [Int.toNat_natCast, hkk, e]
      simp
      omega)
     clear hsucc hT hPk hnx hkk hx2 hr2 hn hnS hnl h
     generalize nx.at_.map At.d = NA at *
     generalize nx.st.map D.str = NT at *
     refine Gy ?_
     refine loopH (fun s2 => ∃ (m : Nat) (ok : Bool) (r5 r6 r7 : List Room), m ≤ Y.length ∧ s2.slot 14 = .int .i64 m ∧ s2.slot 13 = .bool ok ∧ s2.slot 12 = .int .i64 k ∧ s2.slot 10 = .int .i64 i ∧ s2.slot 0 = .list (ns.map Nd.d) ∧ s2.slot 5 = .ptr 5 1 0 ∧ s2.box 5 = some ⟨1, [.list X], r5⟩ ∧ s2.slot 6 = .ptr 6 1 0 ∧ s2.box 6 = some ⟨1, [.bool nm.has, .str nm.dft, .list (nm.pre.map .str), .list (nm.sps.map .str)], r6⟩ ∧ s2.slot 7 = .ptr 7 1 0 ∧ s2.box 7 = some ⟨1, [.int .i64 (node : Int), .str ps], r7⟩ ∧ s2.slot 9 = .list (fit.map (D.int .i64)) ∧ s2.slot 11 = .list ((fitK P k).map (D.int .i64)) ∧ s2.room 11 = [roomOf (fitK P k)] ∧ Hd (T = (ok && (Y.drop m).all (S · (k : Int)))) ∧ Hd (ok = true → nx.k = 1)) (fun s2 => Y.length - slotI s2 14) ?_ ?_
     ·exact ⟨0, nx.k == 1, r5', r6', r7', Nat.zero_le _, Iy, Iy, Iy, Iy, Iy, Iy, Iy, Iy, Iy, Iy, Iy, Iy, Iy, Iy, Hd.mk (show T = _ from (show _ = T from HT).symm), Hd.mk (fun e => by simpa using e)⟩
     ·rintro s2 K2 ⟨m, ok, q5, q6, q7, hm, u14, u13, u12, u10, u0, u5, d5, u6, d6, u7, d7, u9, u11, w11, hO2, hok⟩ hn3 hx3 hr3
      have F12 := Hd.mk f12
      clear f12 f10 f0 f5 c5 f6 c6 f7 c7 f9 f11 n11
      have hyl : Y.length ≤ 100 := HYL
      have hO3 : T = (ok && (Y.drop m).all (S · (k : Int))) := hO2
      by_cases h : m < Y.length ∧ ok = true
      ·obtain ⟨h, rfl⟩ := h
       have k14 : (m : Int) < Y.length := by omega
       have hw3 := wrapS m (by omega)
       obtain ⟨s, hs1⟩ := some_at h
       obtain ⟨a1, a2⟩ := (show ∀ s ∈ Y, _ from HY) s (List.mem_of_getElem? hs1)
       have hek : elB ns (k : Int) = true := (show nx.k = 1 → _ from HEK) ((show true = true → nx.k = 1 from hok) rfl)
       have hcall := a2 (k : Int) hek
       have hz := (self_getD hs1).trans a1
       rw [Bool.true_and, all_drop _ hs1] at hO3
       obtain ⟨v, hv⟩ : ∃ v, S s (k : Int) = v := ⟨_, rfl⟩
       rw [hv] at hcall
       have hO4 : T = (v && (Y.drop (m + 1)).all (S · (k : Int))) := by rw [hO3, hv]
       generalize sf s = Z at *
       unfold Sf.d at *
       have HM := Hd.mk h
       have HO3 := Hd.mk hO4
       have HOK : Hd (v = true → nx.k = 1) := Hd.mk (fun _ => (show true = true → nx.k = 1 from hok) rfl)
       clear hO2 hO3 hO4 hx3 hr3 hs1 a1 a2 h hyl hek hok hv hn2
       refine Qy ?_
       refine hn3 _ ⟨m + 1, v, q5, q6, q7, HM, L, L, L, L, L, L, L, L, L, L, L, L, L, L, HO3, HOK⟩ ?_
       ·have hm2 : m < Y.length := HM
        simp only [slotI, *, AVB, ↓reduceIte]
        omega
      ·have hTok : T = ok := by
        cases ok with
        | false => rw [hO3, Bool.false_and]
        | true =>
         have hml : Y.length ≤ m := by
          rcases Nat.lt_or_ge m Y.length with e | e
          ·exact absurd ⟨e, rfl⟩ h
          ·exact e
         rw [hO3, all_end _ hml]; rfl
       subst hTok
       have hend : ¬ (m : Int) < Y.length ∨ T = false := by
        cases T with
        | false => exact .inr rfl
        | true => exact .inl (fun e => h ⟨by omega, rfl⟩)
       have KK := Hd.mk hok
       clear hO2 hO3 hn3 hr3 h hyl hok
       have hro := room_ok (fitK P k)
       have hra := room_app (fitK P k) k
       have hsz := sz1b (fitK P k)
       have hs1 : szOk 1 [D.int .i64 (k : Int)] = true := rfl
       have hfk := (fitK_ok P k).1
       have hl1 : ((fitK P k).map (D.int .i64)).length + 1 ≤ 1073741824 := by rw [List.length_map]; have hS : ns.length ≤ 10000 := HS; have hnl : (node : Int) < ns.length := HND; have hkn : k < node + 1 := HK; omega
       have RO := Hd.mk hro
       have RA := Hd.mk hra
       have RZ := Hd.mk hsz
       have RS := Hd.mk hs1
       have RL := Hd.mk hl1
       clear hro hra hsz hs1 hfk hl1
       have lF := lenM fit (D.int .i64)
       obtain ⟨Q, hQ⟩ : ∃ Q, (b0 || fit.any fun m => standsF ns (k + 1) m k cc) = Q := ⟨_, rfl⟩
       have HQ := Hd.mk hQ.symm
       have HPQ := Hd.mk (show P (k : Int) = (T && Q) from by rw [← hQ]; exact HPK)
       clear hQ
       have HEND := Hd.mk hend
       clear hend
       cases T with
        | true =>
         have hml : ¬ (m : Int) < Y.length := (show ¬ (m : Int) < Y.length ∨ true = false from HEND).resolve_right (by decide)
         refine Gy ?_
         refine hx3 _ _ ?_
         refine Gy ?_
         clear hx3 hml
         refine loopH (fun s4 => ∃ (m : Nat) (th : Bool) (r5 r6 r7 : List Room), m ≤ fit.length ∧ s4.slot 16 = .int .i64 m ∧ s4.slot 15 = .bool th ∧ s4.slot 13 = .bool true ∧ s4.slot 12 = .int .i64 k ∧ s4.slot 10 = .int .i64 i ∧ s4.slot 0 = .list (ns.map Nd.d) ∧ s4.slot 5 = .ptr 5 1 0 ∧ s4.box 5 = some ⟨1, [.list X], r5⟩ ∧ s4.slot 6 = .ptr 6 1 0 ∧ s4.box 6 = some ⟨1, [.bool nm.has, .str nm.dft, .list (nm.pre.map .str), .list (nm.sps.map .str)], r6⟩ ∧ s4.slot 7 = .ptr 7 1 0 ∧ s4.box 7 = some ⟨1, [.int .i64 (node : Int), .str ps], r7⟩ ∧ s4.slot 9 = .list (fit.map (D.int .i64)) ∧ s4.slot 11 = .list ((fitK P k).map (D.int .i64)) ∧ s4.room 11 = [roomOf (fitK P k)] ∧ Hd (Q = (th || (fit.drop m).any fun a => standsF ns (k + 1) a k cc))) (fun s4 => fit.length - slotI s4 16) ?_ ?_
         ·exact ⟨0, b0, q5, q6, q7, Nat.zero_le _, Iy, Iy, Iy, Iy, Iy, Iy, Iy, Iy, Iy, Iy, Iy, Iy, Iy, Iy, Iy, HQ⟩
         ·rintro s4 K4 ⟨m4, th, p5, p6, p7, hm4, v16, v15, v13, v12, v10, v0, v5, y5, v6, y6, v7, y7, v9, v11, x11, hO4⟩ hn4 hx4 hr4
          clear u14 u13 u12 u10 u0 u5 d5 u6 d6 u7 d7 u9 u11 w11
          have hO5 : Q = (th || (fit.drop m4).any fun a => standsF ns (k + 1) a k cc) := hO4
          have hfl : fit.length ≤ 20000 := (show fit.length ≤ 20000 ∧ _ from hfit).1
          by_cases h : m4 < fit.length ∧ th = false
          ·obtain ⟨h, rfl⟩ := h
           have k16 : (m4 : Int) < fit.length := by omega
           have hw4 := wrapS m4 (by omega)
           obtain ⟨a, ha1⟩ := some_at h
           have hga : (fit.map (D.int .i64)).getD m4 .bad = .int .i64 a := getD_map (f := D.int .i64) ha1
           have ha0 : 0 ≤ a := (show fit.length ≤ 20000 ∧ ∀ m ∈ fit, 0 ≤ m from hfit).2 a (List.mem_of_getElem? ha1)
           have hek : elB ns (k : Int) = true := (show nx.k = 1 → _ from HEK) ((show true = true → nx.k = 1 from KK) rfl)
           have hsc := (show ∀ a b comb : Int, elB ns b = true → 0 ≤ a → _ from HST) a (k : Int) cc hek ha0
           rw [Int.toNat_natCast] at hsc
           rw [Bool.false_or, any_drop _ ha1] at hO5
           generalize hv : standsF ns (k + 1) a (k : Int) cc = v at *
           have HM4 := Hd.mk h
           have HO5 := Hd.mk hO5
           clear hO4 hO5 hx4 hr4 ha1 ha0 hek hv h hfl hn2
           refine Qy ?_
           refine hn4 _ ⟨m4 + 1, v, p5, p6, p7, HM4, L, L, L, L, L, L, L, L, L, L, L, L, L, L, L, HO5⟩ ?_
           ·have hm2 : m4 < fit.length := HM4
            simp only [slotI, *, AVB, ↓reduceIte]
            omega
          ·have hQth : Q = th := by
            cases th with
            | true => rw [hO5, Bool.true_or]
            | false =>
             have : fit.length ≤ m4 := by
              rcases Nat.lt_or_ge m4 fit.length with e | e
              ·exact absurd ⟨e, rfl⟩ h
              ·exact e
             rw [hO5, any_end _ this]; rfl
           have hPk : P (k : Int) = th := by rw [← hQth]; exact (show P (k : Int) = (true && Q) from HPQ).trans (Bool.true_and _)
           have hsu := (show fitK P (k + 1) = _ from HSU)
           have hkn : k < node + 1 := HK
           rw [hPk] at hsu
           have hne : (m4 : Int) < fit.length → th = true := fun e => by
            cases th with
            | true => rfl
            | false => exact absurd ⟨by omega, rfl⟩ h
           have HSV := Hd.mk hsu
           have HNE := Hd.mk hne
           clear hO4 hO5 hn4 hr4 h hQth hPk hsu hne hfl
           cases th with
           | true =>
            have hsu : fitK P (k + 1) = fitK P k ++ [(k : Int)] := (show fitK P (k + 1) = _ from HSV)
            have hro : roomOf (fitK P k) = .full ∨ roomOf (fitK P k) = .own 3 ∨ roomOf (fitK P k) = .fresh := RO
            have hra : roomOf (fitK P k ++ [(k : Int)]) = .own 3 := RA
            have hsz : szOk 1 ((fitK P k).map (D.int .i64)) = true := RZ
            have hs1 : szOk 1 [D.int .i64 (k : Int)] = true := RS
            have hl1 : ((fitK P k).map (D.int .i64)).length + 1 ≤ 1073741824 := RL
            repeat' (first|simp only [*, AVB, AVY, ↓reduceIte, Nat.reduceEqDiff, Nat.reduceLT, Nat.reduceBEq, dIntBin]|refine gw_intro (fun h => ?_) (fun h => ?_) <;> try simp only [AVH] at h)
            all_goals
             refine hx4 _ _ ?_
             refine Gy ?_
             refine hn2 _ ⟨k + 1, p5, p6, p7, hkn, ?_, ?_, ?_, ?_, ?_, ?_, ?_, ?_, ?_, ?_, ?_, ?_⟩ ?_
             ·simp only [*, AVB, ↓reduceIte]
             ·simp only [*, AVB, ↓reduceIte, Nat.reduceEqDiff]
             ·simp only [*, AVB, ↓reduceIte, reduceCtorEq]
             ·simp only [*, AVB, ↓reduceIte, Nat.reduceEqDiff]
             ·simp only [*, AVB]
             ·simp only [*, AVB, ↓reduceIte, Nat.reduceEqDiff]
             ·simp only [*, AVB]
             ·simp only [*, AVB, ↓reduceIte, Nat.reduceEqDiff]
             ·simp only [*, AVB]
             ·simp only [*, AVB, ↓reduceIte, Nat.reduceEqDiff]
             ·simp only [*, List.map_append, AVB, ↓reduceIte, Nat.reduceEqDiff]
             ·simp only [*, AVB, ↓reduceIte, Nat.reduceEqDiff]
             ·have f12 : st'.slot 12 = .int .i64 k := F12
              simp only [slotI, *, AVB, ↓reduceIte]
              omega
           | false =>
            have hsu : fitK P (k + 1) = fitK P k := (show fitK P (k + 1) = fitK P k ++ [] from HSV).trans (List.append_nil _)
            have hne : ¬ (m4 : Int) < fit.length := fun e => absurd ((show (m4 : Int) < fit.length → false = true from HNE) e) (by decide)
            refine Gy ?_
            refine hx4 _ _ ?_
            refine Gy ?_
            refine hn2 _ ⟨k + 1, p5, p6, p7, hkn, ?_, ?_, ?_, ?_, ?_, ?_, ?_, ?_, ?_, ?_, ?_, ?_⟩ ?_
            ·simp only [*, AVB, ↓reduceIte]
            ·simp only [*, AVB, ↓reduceIte, Nat.reduceEqDiff]
            ·simp only [*, AVB, ↓reduceIte, reduceCtorEq]
            ·simp only [*, AVB, ↓reduceIte, Nat.reduceEqDiff]
            ·simp only [*, AVB]
            ·simp only [*, AVB, ↓reduceIte, Nat.reduceEqDiff]
            ·simp only [*, AVB]
            ·simp only [*, AVB, ↓reduceIte, Nat.reduceEqDiff]
            ·simp only [*, AVB]
            ·simp only [*, AVB, ↓reduceIte, Nat.reduceEqDiff]
            ·simp only [*, AVB, ↓reduceIte, Nat.reduceEqDiff]
            ·simp only [*, AVB, ↓reduceIte, Nat.reduceEqDiff]
            ·have f12 : st'.slot 12 = .int .i64 k := F12
             simp only [slotI, *, AVB, ↓reduceIte]
             omega
        | false =>
         have hsu0 : fitK P (k + 1) = fitK P k := by
          have h1 := (show fitK P (k + 1) = _ from HSU)
          rw [(show P (k : Int) = (false && Q) from HPQ)] at h1
          exact h1.trans (List.append_nil _)
         have hkn : k < node + 1 := HK
         have hsu := hsu0
         clear hsu0
         by_cases hml : (m : Int) < Y.length
         all_goals
          refine Gy ?_
          refine hx3 _ _ ?_
          refine Gy ?_
          clear hx3 hml
          refine loopH (fun s4 => ∃ (m : Nat) (th : Bool) (r5 r6 r7 : List Room), s4.slot 16 = .int .i64 m ∧ s4.slot 15 = .bool th ∧ s4.slot 13 = .bool false ∧ s4.slot 12 = .int .i64 k ∧ s4.slot 10 = .int .i64 i ∧ s4.slot 0 = .list (ns.map Nd.d) ∧ s4.slot 5 = .ptr 5 1 0 ∧ s4.box 5 = some ⟨1, [.list X], r5⟩ ∧ s4.slot 6 = .ptr 6 1 0 ∧ s4.box 6 = some ⟨1, [.bool nm.has, .str nm.dft, .list (nm.pre.map .str), .list (nm.sps.map .str)], r6⟩ ∧ s4.slot 7 = .ptr 7 1 0 ∧ s4.box 7 = some ⟨1, [.int .i64 (node : Int), .str ps], r7⟩ ∧ s4.slot 9 = .list (fit.map (D.int .i64)) ∧ s4.slot 11 = .list ((fitK P k).map (D.int .i64)) ∧ s4.room 11 = [roomOf (fitK P k)]) (fun s4 => 0) ?_ ?_
          ·exact ⟨0, b0, q5, q6, q7, Iy, Iy, Iy, Iy, Iy, Iy, Iy, Iy, Iy, Iy, Iy, Iy, Iy, Iy, Iy⟩
          ·rintro s4 K4 ⟨m4, th, p5, p6, p7, v16, v15, v13, v12, v10, v0, v5, y5, v6, y6, v7, y7, v9, v11, x11⟩ hn4 hx4 hr4
           clear u14 u13 u12 u10 u0 u5 d5 u6 d6 u7 d7 u9 u11 w11 hn4 hr4
           repeat' (first|simp only [*, AVB, AVY, ↓reduceIte, Nat.reduceEqDiff, Nat.reduceLT, Nat.reduceBEq, dIntBin]|refine gw_intro (fun h => ?_) (fun h => ?_) <;> try simp only [AVH] at h)
           all_goals
            refine hx4 _ _ ?_
            refine Gy ?_
            refine hn2 _ ⟨k + 1, p5, p6, p7, hkn, ?_, ?_, ?_, ?_, ?_, ?_, ?_, ?_, ?_, ?_, ?_, ?_⟩ ?_
            ·simp only [*, AVB, ↓reduceIte]
            ·simp only [*, AVB, ↓reduceIte, Nat.reduceEqDiff]
            ·simp only [*, AVB, ↓reduceIte, reduceCtorEq]
            ·simp only [*, AVB, ↓reduceIte, Nat.reduceEqDiff]
            ·simp only [*, AVB]
            ·simp only [*, AVB, ↓reduceIte, Nat.reduceEqDiff]
            ·simp only [*, AVB]
            ·simp only [*, AVB, ↓reduceIte, Nat.reduceEqDiff]
            ·simp only [*, AVB]
            ·simp only [*, AVB, ↓reduceIte, Nat.reduceEqDiff]
            ·simp only [*, AVB, ↓reduceIte, Nat.reduceEqDiff]
            ·simp only [*, AVB, ↓reduceIte, Nat.reduceEqDiff]
            ·have f12 : st'.slot 12 = .int .i64 k := F12
             simp only [slotI, *, AVB, ↓reduceIte]
             omega
    ·have k12 : ¬ (k : Int) ≤ (node : Int) := by omega
     obtain rfl : k = node + 1 := by omega
     have hi2 : i < X.length := HI
     have hff : fitK P (node + 1) = fitK P (node + 1) := rfl
     have hb1 := (fitK_ok P (node + 1))
     have HF : Hd ((fitK P (node + 1)).length ≤ 20000 ∧ ∀ m ∈ fitK P (node + 1), 0 ≤ m) := Hd.mk ⟨by have hS : ns.length ≤ 10000 := HS; have hnl : (node : Int) < ns.length := HND; omega, hb1.2⟩
     have HR2 : Hd (R = ((fitAll S ns node (i + 1 == 0) (fitK P (node + 1)) (X.drop (i + 1))).getLast? == some (node : Int))) := Hd.mk (by rw [show (i + 1 == 0) = false from by simp]; exact HO)
     clear hb1 hff hn2 hr2 h
     refine Gy ?_
     refine hx2 _ _ ?_
     refine Gy ?_
     refine hn _ ⟨i + 1, fitK P (node + 1), r5', r6', r7', hi2, L, L, L, L, L, L, L, L, L, HF, HR2⟩ ?_
     ·have g10 : st.slot 10 = .int .i64 i := G10
      simp only [slotI, *, AVB, ↓reduceIte]
      omega
  ·have k10 : ¬ (i : Int) < X.length := by omega
   rw [List.drop_eq_nil_of_le (by omega), fitAll] at hO'
   have lF := lenM fit (D.int .i64)
   have hfl : fit.length ≤ 20000 := (show fit.length ≤ 20000 ∧ _ from hfit).1
   by_cases hf0 : fit = []
   ·have hO2 : R = false := by rw [hO', hf0]; rfl
    subst hO2
    have z1 : ¬ (0 : Int) < fit.length := by rw [hf0]; simp
    clear hO hO' hn hr hRe h hxl hf0
    refine Gy ?_
    exact hx _ _ Wy
   ·obtain ⟨z, hz1, hz2⟩ := getLast_map fit hf0
    have hl0 : fit.length ≠ 0 := fun e => hf0 (List.eq_nil_of_length_eq_zero e)
    have z1 : (0 : Int) < fit.length := by omega
    have z2 : IntKind.i64.wrap ((fit.length : Int) - 1) = ((fit.length - 1 : Nat) : Int) := by rw [wrap64 _ (by omega) (by omega)]; omega
    have z3 : ((fit.length - 1 : Nat) : Int) < fit.length := by omega
    have z4 : (0 : Int) ≤ ((fit.length - 1 : Nat) : Int) := by omega
    rw [hz1] at hO'
    have hO2 : R = (z == (node : Int)) := hO'
    subst hO2
    clear hO hO' hn hr hRe h hxl hf0 hz1 hl0 hfl
    refine Gy ?_
    exact hx _ _ Wy
end Go.Av
namespace Go.Av
open Go.Proofs
variable [Rk] {chk : List D → Bool}
set_option maxHeartbeats 8000000 in
theorem rnth_L (ns : List Nd) (nm : Nam) (n : Int) (s : Sf) (W : Int → Bool) (hS : ns.length ≤ 10000) (he : elB ns n = true)
  (ha : s.a ≤ 1099511627776 ∧ -1099511627776 ≤ s.a) (hb : s.b ≤ 1099511627776 ∧ -1099511627776 ≤ s.b)
  (hl : ∀ j ∈ rowI ns n, s.of_ ≠ [] → callL Tryz.prog (ext11b chk) 19 [.list (ns.map Nd.d), .list s.of_, .agg nm.cs, .agg [.int .i64 j, .str []]] [] = some (.bool (W j), [.no], [])) :
  callL Tryz.prog (ext11b chk) 43 [.list (ns.map Nd.d), s.d, .agg nm.cs, .int .i64 n] [] = some (.bool ((nthGo (fun j => s.of_.isEmpty || W j) (rowI ns n) 0 false).2 && hasAB s.a s.b (nthGo (fun j => s.of_.isEmpty || W j) (rowI ns n) 0 false).1), [.no], []) := by
 have hR := rrow_L (chk := chk) ns n hS
 have hlen : (rowI ns n).length ≤ 10001 := by
  rw [row_snoc he]
  have h1 := rowL_len (ns := ns) (key := pAt ns n.toNat) (m := n.toNat)
  have h2 := (elB_nat he).2.1
  have h3 := (elB_nat he).1
  simp only [List.length_append, List.length_singleton]
  omega
 generalize rowI ns n = R at *
 have hh : ∀ m : Nat, m ≤ 20000 → callL Tryz.prog (ext11b chk) 78 [.int .i64 s.a, .int .i64 s.b, .int .i64 (m : Int)] [] = some (.bool (hasAB s.a s.b m), [.no], []) := fun m hm => ranbHas_L (chk := chk) s.a s.b (m : Int) ha hb (by omega)
 have HH := Hd.mk hh
 have HL := Hd.mk hlen
 have lN := lenM R (D.int .i64)
 obtain ⟨E, hE⟩ : ∃ E, s.of_.isEmpty = E := ⟨_, rfl⟩
 have hz : ((s.of_.length : Int) == 0) = E := by
  rw [← hE]
  cases s.of_ with
  | nil => rfl
  | cons x r => exact ne0 (by simp)
 have HC := Hd.mk (show ∀ j ∈ R, E = false → _ from fun j hj e => hl j hj (by rintro e2; rw [e2] at hE; rw [← hE] at e; cases e))
 rw [hE]
 obtain ⟨G, hG⟩ : ∃ G, Hd (nthGo (fun j => E || W j) R 0 false = G) := ⟨_, rfl⟩
 rw [show nthGo (fun j => E || W j) R 0 false = G from hG]
 clear hh hlen hl hE ha hb he hS
 unfold Nam.cs Sf.d at *
 generalize ns.map Nd.d = L at *
 refine cK 52 8 Tryz.func43 ?_
 refine Gy ?_
 clear hR
 refine loopH (fun st => ∃ (i p : Nat) (b : Bool) (r5 r6 : List Room), i ≤ R.length ∧ st.slot 12 = .int .i64 i ∧ st.slot 10 = .int .i64 (p : Int) ∧ st.slot 11 = .bool b ∧ st.slot 9 = .list (R.map (D.int .i64)) ∧ st.slot 0 = .list L ∧ st.slot 5 = .ptr 5 1 0 ∧ st.box 5 = some ⟨1, [.int .i64 s.kd, .int .i64 s.ns, .str s.pre, .str s.nm, .int .i64 s.op, .str s.tx, .bool s.fold, .int .i64 s.mark, .int .i64 s.a, .int .i64 s.b, .list s.of_], r5⟩ ∧ st.slot 6 = .ptr 6 1 0 ∧ st.box 6 = some ⟨1, [.bool nm.has, .str nm.dft, .list (nm.pre.map .str), .list (nm.sps.map .str)], r6⟩ ∧ Hd (p ≤ i ∧ nthGo (fun j => E || W j) (R.drop i) p b = G)) (fun st => R.length - slotI st 12) ?_ ?_
 ·exact ⟨0, 0, false, (padR [] 11).take 11, (padR [] 4).take 4, Nat.zero_le _, Iy, Iy, Iy, Iy, Iy, Iy, Iy, Iy, Iy, Hd.mk ⟨Nat.le_refl _, hG⟩⟩
 ·rintro st K ⟨i, p, b, r5, r6, hi, g12, g10, g11, g9, g0, g5, b5, g6, b6, hO⟩ hn hx hr
  have hO' : p ≤ i ∧ nthGo (fun j => E || W j) (R.drop i) p b = G := hO
  have hll : R.length ≤ 10001 := HL
  by_cases h : i < R.length
  ·have k9 : (i : Int) < R.length := by omega
   have hw := wrapS i (by omega)
   have hw2 := wrapS p (by omega)
   obtain ⟨x, hx1⟩ := some_at h
   have ha : (R.map (D.int .i64)).getD i .bad = .int .i64 x := getD_map (f := D.int .i64) hx1
   rw [drop_at hx1, nthGo] at hO'
   have hcl := (show ∀ j ∈ R, E = false → _ from HC) x (List.mem_of_getElem? hx1)
   cases hEE : E with
   | true =>
    rw [hEE, Bool.true_or, if_pos rfl] at hO'
    have HO := Hd.mk (show p + 1 ≤ i + 1 ∧ nthGo (fun j => E || W j) (R.drop (i + 1)) (p + 1) true = G from ⟨by omega, by rw [hEE]; exact hO'.2⟩)
    rw [hEE] at hz
    clear hcl hO hO' hx hr hx1 hll hG
    repeat' (first|simp only [*, AVB, AVY, ↓reduceIte, Nat.reduceEqDiff, Nat.reduceLT, Nat.reduceBEq, dIntBin]|refine drW_intro (by kernel_rfl) ?_)
    refine hn _ ⟨i + 1, p + 1, true, r5, r6, h, ?_, ?_, ?_, ?_, ?_, ?_, ?_, ?_, ?_, HO⟩ ?_
    ·simp only [*, AVL, ↓reduceIte]
    ·simp only [*, AVL, ↓reduceIte, Nat.reduceEqDiff]
    ·simp only [*, AVL, ↓reduceIte, Nat.reduceEqDiff]
    ·simp only [*, AVL, ↓reduceIte, Nat.reduceEqDiff]
    ·simp only [*, AVL, ↓reduceIte, reduceCtorEq]
    ·simp only [*, AVL, ↓reduceIte, Nat.reduceEqDiff]
    ·simp only [*, AVL]
    ·simp only [*, AVL, ↓reduceIte, Nat.reduceEqDiff]
    ·simp only [*, AVL]
    ·exact Zy
   | false =>
    have hc := hcl hEE
    rw [hEE, Bool.false_or] at hO'
    rw [hEE] at hz
    cases hW : W x with
    | true =>
     rw [hW] at hc
     rw [hW, if_pos rfl] at hO'
     have HO := Hd.mk (show p + 1 ≤ i + 1 ∧ nthGo (fun j => E || W j) (R.drop (i + 1)) (p + 1) true = G from ⟨by omega, by rw [hEE]; exact hO'.2⟩)
     clear hcl hO hO' hx hr hx1 hll hG hW
     repeat' (first|simp only [*, AVB, AVY, ↓reduceIte, Nat.reduceEqDiff, Nat.reduceLT, reduceCtorEq, Nat.reduceBEq, dIntBin]|refine drW_intro (by kernel_rfl) ?_)
     refine hn _ ⟨i + 1, p + 1, true, r5, r6, h, ?_, ?_, ?_, ?_, ?_, ?_, ?_, ?_, ?_, HO⟩ ?_
     ·simp only [*, AVL, ↓reduceIte]
     ·simp only [*, AVL, ↓reduceIte, Nat.reduceEqDiff]
     ·simp only [*, AVL, ↓reduceIte, Nat.reduceEqDiff]
     ·simp only [*, AVL, ↓reduceIte, Nat.reduceEqDiff]
     ·simp only [*, AVL, ↓reduceIte, reduceCtorEq]
     ·simp only [*, AVL, ↓reduceIte, Nat.reduceEqDiff]
     ·simp only [*, AVL]
     ·simp only [*, AVL, ↓reduceIte, Nat.reduceEqDiff]
     ·simp only [*, AVL]
     ·exact Zy
    | false =>
     rw [hW] at hc
     rw [hW, if_neg (by decide)] at hO'
     have HO := Hd.mk (show p ≤ i + 1 ∧ nthGo (fun j => E || W j) (R.drop (i + 1)) p false = G from ⟨by omega, by rw [hEE]; exact hO'.2⟩)
     clear hcl hO hO' hx hr hx1 hll hG hW
     repeat' (first|simp only [*, AVB, AVY, ↓reduceIte, Nat.reduceEqDiff, Nat.reduceLT, reduceCtorEq, Nat.reduceBEq, dIntBin]|refine drW_intro (by kernel_rfl) ?_)
     refine hn _ ⟨i + 1, p, false, r5, r6, h, ?_, ?_, ?_, ?_, ?_, ?_, ?_, ?_, ?_, HO⟩ ?_
     ·simp only [*, AVL, ↓reduceIte]
     ·simp only [*, AVL, ↓reduceIte, Nat.reduceEqDiff]
     ·simp only [*, AVL, ↓reduceIte, Nat.reduceEqDiff]
     ·simp only [*, AVL, ↓reduceIte, Nat.reduceEqDiff]
     ·simp only [*, AVL, ↓reduceIte, reduceCtorEq]
     ·simp only [*, AVL, ↓reduceIte, Nat.reduceEqDiff]
     ·simp only [*, AVL]
     ·simp only [*, AVL, ↓reduceIte, Nat.reduceEqDiff]
     ·simp only [*, AVL]
     ·exact Zy
  ·have k9 : ¬ (i : Int) < R.length := by omega
   have hhp := (show ∀ m : Nat, m ≤ 20000 → _ from HH) p (by omega)
   rw [List.drop_eq_nil_of_le (by omega), nthGo] at hO'
   obtain ⟨_, hGe⟩ := hO'
   subst hGe
   clear hn hr hO hll hG
   cases b with
   | true =>
    refine Gy ?_
    exact hx _ _ Wy
   | false =>
    refine Gy ?_
    exact hx _ _ Wy
set_option maxHeartbeats 4000000 in
theorem rlist_L (ns : List Nd) (nm : Nam) (l : List D) (n : Int) (ps : List UInt8) (V : D → Bool) (hl : l.length ≤ 100)
  (hf : ∀ c ∈ l, c = cxD (cxL c)) (hc : ∀ c ∈ l, callL Tryz.prog (ext11b chk) 21 [.list (ns.map Nd.d), c, .agg nm.cs, .agg [.int .i64 n, .str ps]] [] = some (.bool (V c), [.no], [])) :
  callL Tryz.prog (ext11b chk) 19 [.list (ns.map Nd.d), .list l, .agg nm.cs, .agg [.int .i64 n, .str ps]] [] = some (.bool (l.any V), [.no], []) := by
 have HC := Hd.mk hc
 have HF := Hd.mk hf
 have HL := Hd.mk hl
 obtain ⟨R, hRe⟩ : ∃ R, Hd (R = l.any V) := ⟨_, rfl⟩
 rw [← (show R = l.any V from hRe)]
 clear hc hl hf
 unfold Nam.cs at *
 generalize ns.map Nd.d = L at *
 refine cK 24 8 Tryz.func19 ?_
 refine Gy ?_
 refine loopH (fun st => ∃ (i : Nat) (r6 r7 : List Room), i ≤ l.length ∧ st.slot 9 = .int .i64 i ∧ st.slot 1 = .list l ∧ st.slot 0 = .list L ∧ st.slot 6 = .ptr 6 1 0 ∧ st.box 6 = some ⟨1, [.bool nm.has, .str nm.dft, .list (nm.pre.map .str), .list (nm.sps.map .str)], r6⟩ ∧ st.slot 7 = .ptr 7 1 0 ∧ st.box 7 = some ⟨1, [.int .i64 n, .str ps], r7⟩ ∧ Hd (R = (l.drop i).any V)) (fun st => l.length - slotI st 9) ?_ ?_
 ·exact ⟨0, (padR [] 4).take 4, (padR [] 2).take 2, Nat.zero_le _, Iy, Iy, Iy, Iy, Iy, Iy, Iy, hRe⟩
 ·rintro st K ⟨i, r6, r7, hi, g9, g1, g0, g6, b6, g7, b7, hO⟩ hn hx hr
  have hO' : R = (l.drop i).any V := hO
  have hll : l.length ≤ 100 := HL
  by_cases h : i < l.length
  ·have k9 : (i : Int) < l.length := by omega
   have hw := wrapS i (by omega)
   obtain ⟨c, hc1⟩ := some_at h
   have hm := List.mem_of_getElem? hc1
   have hcf := (show ∀ c ∈ l, c = cxD (cxL c) from HF) c hm
   have hcc := (show ∀ c ∈ l, _ from HC) c hm
   rw [any_drop _ hc1] at hO'
   have hg := self_getD hc1
   obtain ⟨v, hv⟩ : ∃ v, V c = v := ⟨_, rfl⟩
   rw [hv] at hcc hO'
   generalize cxL c = Y at *
   subst hcf
   unfold cxD at *
   cases v with
   | true =>
    rw [Bool.true_or] at hO'
    subst hO'
    clear hn hx hO hRe hc1 hm h hll hv
    repeat' (first|simp only [*, AVB, AVY, ↓reduceIte, Nat.reduceEqDiff, Nat.reduceLT, reduceCtorEq, Nat.reduceBEq, dIntBin]|refine drW_intro (by kernel_rfl) ?_)
    exact hr _ Wy
   | false =>
    rw [Bool.false_or] at hO'
    have HO := Hd.mk hO'
    clear hr hx hO hO' hRe hc1 hm hll hv
    repeat' (first|simp only [*, AVB, AVY, ↓reduceIte, Nat.reduceEqDiff, Nat.reduceLT, reduceCtorEq, Nat.reduceBEq, dIntBin]|refine drW_intro (by kernel_rfl) ?_)
    refine hn _ ⟨i + 1, r6, r7, h, ?_, ?_, ?_, ?_, ?_, ?_, ?_, HO⟩ ?_
    ·simp only [*, AVL, ↓reduceIte]
    ·simp only [*, AVL, ↓reduceIte, Nat.reduceEqDiff]
    ·simp only [*, AVL, ↓reduceIte, reduceCtorEq]
    ·simp only [*, AVL, ↓reduceIte, Nat.reduceEqDiff]
    ·simp only [*, AVL]
    ·simp only [*, AVL, ↓reduceIte, Nat.reduceEqDiff]
    ·simp only [*, AVL]
    ·exact Zy
  ·have k9 : ¬ (i : Int) < l.length := by omega
   rw [any_end _ (by omega)] at hO'
   subst hO'
   clear hn hr hO hRe h hll
   refine Gy ?_
   exact hx _ _ Wy
theorem cp_mono0 {m : Nat} {S S' : D → Bool} (h : ∀ d, S d = true → S' d = true) {x : D} (hx : cpOk m S x = true) : cpOk m S' x = true := by
 obtain ⟨c, l, rfl, h1, h2⟩ := cpOk_inv hx
 simp only [cpD, cpOk, lenB, Bool.and_eq_true, decide_eq_true_eq, List.all_eq_true]
 exact ⟨h1, fun s hs => h s (h2 s hs)⟩
theorem cx_mono0 {m : Nat} {S S' : D → Bool} (h : ∀ d, S d = true → S' d = true) {x : D} (hx : cxOk m S x = true) : cxOk m S' x = true := by
 obtain ⟨l, rfl, h1, h2⟩ := cxOk_inv hx
 simp only [cxD, cxOk, lenB, Bool.and_eq_true, decide_eq_true_eq, List.all_eq_true]
 exact ⟨h1, fun s hs => cp_mono0 h (h2 s hs)⟩
set_option maxHeartbeats 2000000 in
theorem rcomp_L (ns : List Nd) (nm : Nam) (c : D) (n : Int) (ps : List UInt8) {k : Nat} {Q : D → Bool} (hQ : ∀ s, Q s = true → smOk 100 (k + 1) s = true) (S : D → Int → Bool) (hS : ns.length ≤ 10000) (hR : RightT ns) (hc : cxOk 100 Q c = true)
  (hs : ∀ s, Q s = true → ∀ j, elB ns j = true → callL Tryz.prog (ext11b chk) 18 [.list (ns.map Nd.d), (sf s).d, .agg nm.cs, .int .i64 j] [] = some (.bool (S s j), [.no], [])) :
  callL Tryz.prog (ext11b chk) 21 [.list (ns.map Nd.d), c, .agg nm.cs, .agg [.int .i64 n, .str ps]] [] = some (.bool (complexV S ns c n ps), [.no], []) := by
 have hp := rpseudo_L (chk := chk) c (cx_mono0 hQ hc)
 obtain ⟨X, rfl, hXl, hX⟩ := cxOk_inv hc
 unfold complexV
 have hxx : cxL (cxD X) = X := rfl
 rw [hxx]
 cases he : elB ns n with
 | false =>
  have hE := relem_L (chk := chk) ns n
  rw [he] at hE
  rw [Bool.false_and]
  clear hp hs hX hXl hc he
  unfold Nam.cs cxD at *
  generalize ns.map Nd.d = L at *
  exact cWy 134 8 Tryz.func21
 | true =>
  rw [Bool.true_and]
  cases hq : (pseudoF (cxD X) == ps) with
  | false =>
   have hE := relem_L (chk := chk) ns n
   rw [he] at hE
   rw [Bool.false_and]
   generalize pseudoF (cxD X) = qs at *
   have hq2 : (qs != ps) = true := by rw [bne, hq]; rfl
   clear hs hX hXl hc he
   unfold Nam.cs cxD at *
   generalize ns.map Nd.d = L at *
   exact cWy 134 8 Tryz.func21
  | true =>
   have hq1 : pseudoF (cxD X) = ps := by simpa using hq
   rw [hq1] at hp
   rw [Bool.true_and]
   by_cases h0 : X = []
   ·have hE := relem_L (chk := chk) ns n
    rw [he] at hE
    subst h0
    rw [show (!([] : List D).isEmpty && _) = false from rfl]
    clear hs hX hXl hc he hq hq1
    unfold Nam.cs cxD at *
    generalize ns.map Nd.d = L at *
    exact cWy 134 8 Tryz.func21
   ·have h1 : X.isEmpty = false := by cases X with
     | nil => exact absurd rfl h0
     | cons _ _ => rfl
    rw [h1, Bool.not_false, Bool.true_and]
    obtain ⟨m, rfl⟩ : ∃ m : Nat, n = (m : Int) := ⟨n.toNat, by have := (elB_nat he).1; omega⟩
    have := rcomplex_L (chk := chk) ns nm X m hS hR he S h0 hXl (fun x hx => by
     obtain ⟨cc, sl, rfl, hsl, hs1⟩ := cpOk_inv (hX x hx)
     exact ⟨rfl, hsl, fun s hs2 => ⟨(smOk_inv (hQ s (hs1 s hs2))).1, hs s (hs1 s hs2)⟩⟩) ps hp
    exact this
end Go.Av
namespace Go.Av
open Go.Proofs
variable [Rk] {chk : List D → Bool}
theorem nthGo_row {ns : List Nd} {n : Int} (he : elB ns n = true) (W : Int → Bool) : nthGo W (rowI ns n) 0 false = ((rowI ns n).countP W, W n) := by
 rw [row_snoc he, nthGo_snoc, Nat.zero_add]
theorem nodeI_el {ns : List Nd} {n : Int} (he : elB ns n = true) : ∃ i : Nat, n = (i : Int) ∧ i < ns.length ∧ ns[i]? = some (nodeI ns n) := by
 obtain ⟨h0, h1, hk⟩ := elB_nat he
 refine ⟨n.toNat, by omega, by omega, ?_⟩
 have hb : inB' ns n = true := by unfold inB'; simp; omega
 unfold nodeI
 rw [if_pos hb]
 obtain ⟨x, hx⟩ := some_at (show n.toNat < ns.length by omega)
 rw [hx]
 simp [List.getD, hx]
set_option maxHeartbeats 8000000 in
theorem rattr18_L (L0 : D) (X : Nd) (LS : List D) (nm : Nam) (n : Int) (S : Sf) (Ln : Nat) (i : Nat)
  (hkd : S.kd = 5) (hL0 : ∃ L, L0 = .list L ∧ (L.length : Int) = Ln ∧ L.getD i .bad = .agg [.int .i64 X.p, .int .i64 X.k, .str X.sp, .str X.nm, .list (X.at_.map At.d), .list LS, .str X.tx]) (hi : i < Ln) (hx : X.at_.length ≤ 1000000)
  (f : At → Bool) (f1 : At → Bool) (f2 : At → Bool)
  (hf : ∀ a ∈ X.at_, f a = (a.nm == S.nm && (f1 a && f2 a)))
  (h1 : ∀ a ∈ X.at_, callL Tryz.prog (ext11b chk) 39 [.agg [.int .i64 S.kd, .int .i64 S.ns, .str S.pre, .str S.nm, .int .i64 S.op, .str S.tx, .bool S.fold, .int .i64 S.mark, .int .i64 S.a, .int .i64 S.b, .list S.of_], .str a.sp, .agg [.bool nm.has, .str nm.dft, .list (nm.pre.map .str), .list (nm.sps.map .str)], .bool true] [] = some (.bool (f1 a), [.no], []))
  (h2 : ∀ a ∈ X.at_, callL Tryz.prog (ext11b chk) 41 [.agg [.int .i64 S.op, .str S.tx, .bool S.fold], .str a.vl] [] = some (.bool (f2 a), [.no], [])) :
  callL Tryz.prog (ext11b chk) 18 [L0, .agg [.int .i64 S.kd, .int .i64 S.ns, .str S.pre, .str S.nm, .int .i64 S.op, .str S.tx, .bool S.fold, .int .i64 S.mark, .int .i64 S.a, .int .i64 S.b, .list S.of_], .agg [.bool nm.has, .str nm.dft, .list (nm.pre.map .str), .list (nm.sps.map .str)], .int .i64 i] [] = some (.bool (X.at_.any f), [.no], []) := by
 obtain ⟨L, rfl, lN, hg⟩ := hL0
 have g1 : (i : Int) < Ln := by omega
 have HF := Hd.mk hf
 have H1 := Hd.mk h1
 have H2 := Hd.mk h2
 have HX := Hd.mk hx
 have lA := lenM X.at_ At.d
 obtain ⟨R, hRe⟩ : ∃ R, Hd (R = X.at_.any f) := ⟨_, rfl⟩
 rw [← (show R = X.at_.any f from hRe)]
 clear hf h1 h2 hi hx
 obtain ⟨k1, k2, k3⟩ := eqI hkd
 rw [hkd]
 generalize hA : X.at_ = A at *
 have H1' := Hd.mk (show ∀ a ∈ A, callL Tryz.prog (ext11b chk) 39 [.agg [.int .i64 5, .int .i64 S.ns, .str S.pre, .str S.nm, .int .i64 S.op, .str S.tx, .bool S.fold, .int .i64 S.mark, .int .i64 S.a, .int .i64 S.b, .list S.of_], .str a.sp, .agg [.bool nm.has, .str nm.dft, .list (nm.pre.map .str), .list (nm.sps.map .str)], .bool true] [] = some (.bool (f1 a), [.no], []) from by have := (show _ from H1); rw [hkd] at this; exact this)
 clear hkd k1 k2 k3 H1 hA
 refine cK 172 8 Tryz.func18 ?_
 refine Gy ?_
 clear hg g1
 refine loopH (fun st => ∃ (j : Nat) (r5 r6 r9 : List Room), j ≤ A.length ∧ st.slot 10 = .int .i64 j ∧ st.slot 5 = .ptr 5 1 0 ∧ st.box 5 = some ⟨1, [.int .i64 5, .int .i64 S.ns, .str S.pre, .str S.nm, .int .i64 S.op, .str S.tx, .bool S.fold, .int .i64 S.mark, .int .i64 S.a, .int .i64 S.b, .list S.of_], r5⟩ ∧ st.slot 6 = .ptr 6 1 0 ∧ st.box 6 = some ⟨1, [.bool nm.has, .str nm.dft, .list (nm.pre.map .str), .list (nm.sps.map .str)], r6⟩ ∧ st.slot 9 = .ptr 9 1 0 ∧ st.box 9 = some ⟨1, [.int .i64 X.p, .int .i64 X.k, .str X.sp, .str X.nm, .list (A.map At.d), .list LS, .str X.tx], r9⟩ ∧ Hd (R = (A.drop j).any f)) (fun st => A.length - slotI st 10) ?_ ?_
 ·exact ⟨0, (padR [] 11).take 11, (padR [] 4).take 4, (padR [] 7).take 7, Nat.zero_le _, Iy, Iy, Iy, Iy, Iy, Iy, Iy, hRe⟩
 ·rintro st K ⟨j, r5, r6, r9, hj, g10, g5, b5, g6, b6, g9, b9, hO⟩ hn hx hr
  have hO' : R = (A.drop j).any f := hO
  have hll : A.length ≤ 1000000 := HX
  by_cases h : j < A.length
  ·have k9 : (j : Int) < A.length := by omega
   have hw := wrapS j (by omega)
   obtain ⟨a, ha1⟩ := some_at h
   have hm := List.mem_of_getElem? ha1
   have hga : (A.map At.d).getD j .bad = .agg [.str a.sp, .str a.nm, .str a.vl] := getD_map (f := At.d) ha1
   have hff := (show ∀ a ∈ A, _ from HF) a hm
   have hc1 := (show ∀ a ∈ A, _ from H1') a hm
   have hc2 := (show ∀ a ∈ A, _ from H2) a hm
   rw [any_drop _ ha1, hff] at hO'
   generalize f1 a = v1 at *
   generalize f2 a = v2 at *
   cases hq : (a.nm == S.nm) with
   | false =>
    rw [hq, Bool.false_and, Bool.false_or] at hO'
    have HO := Hd.mk hO'
    clear hc1 hc2 hr hx hO hO' hRe ha1 hm hll hff
    repeat' (first|simp only [*, AVB, AVY, ↓reduceIte, Nat.reduceEqDiff, Nat.reduceLT, Nat.reduceBEq, Nat.reduceAdd, dIntBin]|refine drW_intro (by kernel_rfl) ?_)
    refine hn _ ⟨j + 1, r5, r6, r9, h, ?_, ?_, ?_, ?_, ?_, ?_, ?_, HO⟩ ?_
    ·simp only [*, AVL, ↓reduceIte]
    ·simp only [*, AVL, ↓reduceIte, Nat.reduceEqDiff]
    ·simp only [*, AVL]
    ·simp only [*, AVL, ↓reduceIte, Nat.reduceEqDiff]
    ·simp only [*, AVL]
    ·simp only [*, AVL, ↓reduceIte, Nat.reduceEqDiff]
    ·simp only [*, AVL]
    ·exact Zy
   | true =>
    rw [hq, Bool.true_and] at hO'
    cases v1 with
    | false =>
     rw [Bool.false_and, Bool.false_or] at hO'
     have HO := Hd.mk hO'
     clear hc2 hr hx hO hO' hRe ha1 hm hll hff
     repeat' (first|simp only [*, AVB, AVY, ↓reduceIte, Nat.reduceEqDiff, Nat.reduceLT, Nat.reduceBEq, Nat.reduceAdd, dIntBin]|refine drW_intro (by kernel_rfl) ?_)
     refine hn _ ⟨j + 1, r5, r6, r9, h, ?_, ?_, ?_, ?_, ?_, ?_, ?_, HO⟩ ?_
     ·simp only [*, AVL, ↓reduceIte]
     ·simp only [*, AVL, ↓reduceIte, Nat.reduceEqDiff]
     ·simp only [*, AVL]
     ·simp only [*, AVL, ↓reduceIte, Nat.reduceEqDiff]
     ·simp only [*, AVL]
     ·simp only [*, AVL, ↓reduceIte, Nat.reduceEqDiff]
     ·simp only [*, AVL]
     ·exact Zy
    | true =>
     rw [Bool.true_and] at hO'
     cases v2 with
     | false =>
      rw [Bool.false_or] at hO'
      have HO := Hd.mk hO'
      clear hr hx hO hO' hRe ha1 hm hll hff
      repeat' (first|simp only [*, AVB, AVY, ↓reduceIte, Nat.reduceEqDiff, Nat.reduceLT, Nat.reduceBEq, Nat.reduceAdd, dIntBin]|refine drW_intro (by kernel_rfl) ?_)
      refine hn _ ⟨j + 1, r5, r6, r9, h, ?_, ?_, ?_, ?_, ?_, ?_, ?_, HO⟩ ?_
      ·simp only [*, AVL, ↓reduceIte]
      ·simp only [*, AVL, ↓reduceIte, Nat.reduceEqDiff]
      ·simp only [*, AVL]
      ·simp only [*, AVL, ↓reduceIte, Nat.reduceEqDiff]
      ·simp only [*, AVL]
      ·simp only [*, AVL, ↓reduceIte, Nat.reduceEqDiff]
      ·simp only [*, AVL]
      ·exact Zy
     | true =>
      rw [Bool.true_or] at hO'
      subst hO'
      clear hn hx hO hRe ha1 hm h hll hff
      repeat' (first|simp only [*, AVB, AVY, ↓reduceIte, Nat.reduceEqDiff, Nat.reduceLT, Nat.reduceBEq, Nat.reduceAdd, dIntBin]|refine drW_intro (by kernel_rfl) ?_)
      exact hr _ Wy
  ·have k9 : ¬ (j : Int) < A.length := by omega
   rw [any_end _ (by omega)] at hO'
   subst hO'
   clear hn hr hO hRe h hll
   refine Gy ?_
   exact hx _ _ Wy
set_option maxHeartbeats 8000000 in
theorem rsimple18_L (ns : List Nd) (nm : Nam) (n : Int) (S : Sf) (hn : nm.ok) (hS : SmallD ns) (he : elB ns n = true) (hrE : ∀ j ∈ rowI ns n, elB ns j = true) (hnm : S.nm.length ≤ 1000) (ht : S.tx.length ≤ 1000)
  (ha : S.a ≤ 1099511627776 ∧ -1099511627776 ≤ S.a) (hb : S.b ≤ 1099511627776 ∧ -1099511627776 ≤ S.b) (L : List D → Int → Bool)
  (hl : ∀ j, elB ns j = true → callL Tryz.prog (ext11b chk) 19 [.list (ns.map Nd.d), .list S.of_, .agg nm.cs, .agg [.int .i64 j, .str []]] [] = some (.bool (L S.of_ j), [.no], [])) :
  callL Tryz.prog (ext11b chk) 18 [.list (ns.map Nd.d), S.d, .agg nm.cs, .int .i64 n] [] = some (.bool (stepV ns nm L S.d n), [.no], []) := by
 obtain ⟨x1, x2, x3⟩ := node_small hS n
 have hnth := rnth_L (chk := chk) ns nm n S (L S.of_) hS.1 he ha hb (fun j hj _ => hl j (hrE j hj))
 rw [nthGo_row he] at hnth
 dsimp only at hnth
 have hlst := hl n he
 have hsta : callL Tryz.prog (ext11b chk) 42 [.list ((nodeI ns n).st.map D.str), .str S.nm] [] = some (.bool (staI ns n S.nm), [.no], []) := by
  obtain ⟨i, hi, hil, hx⟩ := nodeI_el he
  have := has_L (chk := chk) (nodeI ns n).st S.nm (by omega)
  have e : staI ns n S.nm = (nodeI ns n).st.contains S.nm := by
   unfold staI stsAt
   have hin : n.toNat = i := by omega
   rw [he, Bool.true_and, hin, hx]
  rw [e]
  exact this
 have hpar : (decide ((nodeI ns n).p < 0)) = !(parI ns n).2 := by
  obtain ⟨i, hi, hil, hx⟩ := nodeI_el he
  have hin : n.toNat = i := by omega
  have hp : pAt ns i = (nodeI ns n).p := by unfold pAt; rw [hx]
  unfold parI
  rw [hin, hp]
  by_cases h0 : 0 ≤ (nodeI ns n).p
  ·rw [if_pos ⟨he, h0⟩]; simp; omega
  ·rw [if_neg (fun e => h0 e.2)]; simp; omega
 have hcl := rattr_L (chk := chk) ns n sClass 3 S.nm hS hnm
 have hid := rattr_L (chk := chk) ns n sId 2 S.nm hS hnm
 have hlk1 : callL Tryz.prog (ext11b chk) 39 [.agg [.int .i64 0, .int .i64 0, .str [], .str [], .int .i64 0, .str [], .bool false, .int .i64 0, .int .i64 0, .int .i64 0, .list []], .str (nodeI ns n).sp, .agg nm.cs, .bool false] [] = _ := rinPlace_L (chk := chk) nm ⟨0, 0, [], [], 0, [], false, 0, 0, 0, []⟩ (nodeI ns n).sp false hn
 have hlk2 := rattr_L (chk := chk) ns n sHref 1 [] hS (by decide)
 dsimp only at hlk1
 have hip := rinPlace_L (chk := chk) nm S (nodeI ns n).sp false hn
 have hat : S.kd = 5 → callL Tryz.prog (ext11b chk) 18 [.list (ns.map Nd.d), S.d, .agg nm.cs, .int .i64 n] [] = some (.bool ((nodeI ns n).at_.any fun a => a.nm == S.nm && (inPlF nm S.ns S.pre a.sp true && holdsF S.op S.tx S.fold a.vl)), [.no], []) := fun k5 => by
  obtain ⟨i, rfl, hil, hx⟩ := nodeI_el he
  have hgd : (ns.map Nd.d).getD i .bad = (nodeI ns (i : Int)).d := getD_map (f := Nd.d) hx
  rw [ndat] at hgd
  exact rattr18_L (chk := chk) _ (nodeI ns (i : Int)) _ nm (i : Int) S ns.length i k5 ⟨_, rfl, lenM ns Nd.d, hgd⟩ hil x1 _ (fun a => inPlF nm S.ns S.pre a.sp true) (fun a => holdsF S.op S.tx S.fold a.vl) (fun a _ => rfl) (fun a _ => rinPlace_L (chk := chk) nm S a.sp true hn) (fun a ha2 => by
   have := rholds_L (chk := chk) S.op S.tx S.fold a.vl (by omega) (by have := x3 a ha2; omega)
   rw [← holds_eq] at this
   exact this)
 have lN := lenM ns Nd.d
 obtain ⟨i, rfl, hil, hx⟩ := nodeI_el he
 have hgd : (ns.map Nd.d).getD i .bad = (nodeI ns (i : Int)).d := getD_map (f := Nd.d) hx
 have g1 : (i : Int) < ns.length := by omega
 rw [ndat] at hgd
 unfold stepV
 rw [sf_d]
 dsimp only
 by_cases k5 : S.kd = 5
 ·rw [k5]
  simp only [show ((5 : Int) = 1) = False from by decide, show ((5 : Int) = 2) = False from by decide, show ((5 : Int) = 3) = False from by decide, show ((5 : Int) = 4) = False from by decide, if_false, if_true]
  exact hat k5
 clear hat hl hrE ha hb ht hnm he hn hS x1 x2 x3 hx hil
 unfold nthV
 generalize nodeI ns (i : Int) = X at *
 generalize ((S.of_.isEmpty || L S.of_ (i : Int)) && hasAB S.a S.b ((rowI ns (i : Int)).countP fun j => S.of_.isEmpty || L S.of_ j)) = q7 at *
 generalize L S.of_ (i : Int) = q8 at *
 generalize staI ns (i : Int) S.nm = q11 at *
 generalize plainV ns (i : Int) sClass 3 S.nm = q3 at *
 generalize plainV ns (i : Int) sId 2 S.nm = q4 at *
 generalize plainV ns (i : Int) sHref 1 [] = p2 at *
 generalize inPlF nm 0 [] X.sp false = p1 at *
 generalize inPlF nm S.ns S.pre X.sp false = q2 at *
 rw [← hpar]
 clear hpar
 generalize X.at_.map At.d = LA at *
 generalize X.st.map D.str = LS at *
 generalize ns.map Nd.d = NS at *
 unfold sClass at hcl
 unfold sId at hid
 unfold sHref at hlk2
 unfold sArea
 unfold Nam.cs Sf.d at *
 by_cases k1 : S.kd = 1
 ·rw [if_pos k1]
  generalize hkd : S.kd = kd at *
  subst k1
  clear hkd k5
  clear hnth hlst hsta hcl hid hlk1 hlk2
  cases c1 : (X.nm == S.nm) with
  | true =>
   exact cWy 172 8 Tryz.func18
  | false =>
   exact cWy 172 8 Tryz.func18
 rw [if_neg k1]
 by_cases k2 : S.kd = 2
 ·rw [if_pos k2]
  generalize hkd : S.kd = kd at *
  subst k2
  clear hkd k5 k1
  clear hnth hlst hsta hcl hid hlk1 hlk2
  exact cWy 172 8 Tryz.func18
 rw [if_neg k2]
 by_cases k3 : S.kd = 3
 ·rw [if_pos k3]
  generalize hkd : S.kd = kd at *
  subst k3
  clear hkd k5 k1 k2
  clear hnth hlst hsta hid hlk1 hlk2 hip
  exact cWy 172 8 Tryz.func18
 rw [if_neg k3]
 by_cases k4 : S.kd = 4
 ·rw [if_pos k4]
  generalize hkd : S.kd = kd at *
  subst k4
  clear hkd k5 k1 k2 k3
  clear hnth hlst hsta hcl hlk1 hlk2 hip
  exact cWy 172 8 Tryz.func18
 rw [if_neg k4]
 rw [if_neg k5]
 by_cases k6 : S.kd = 6
 ·rw [if_pos k6]
  generalize hkd : S.kd = kd at *
  subst k6
  clear hkd k5 k1 k2 k3 k4
  clear hnth hlst hsta hcl hid hlk1 hlk2 hip
  exact cWy 172 8 Tryz.func18
 rw [if_neg k6]
 by_cases k7 : S.kd = 7
 ·rw [if_pos k7]
  generalize hkd : S.kd = kd at *
  subst k7
  clear hkd k5 k1 k2 k3 k4 k6
  clear hlst hsta hcl hid hlk1 hlk2 hip
  exact cWy 172 8 Tryz.func18
 rw [if_neg k7]
 by_cases k8 : S.kd = 8 ∨ S.kd = 9
 ·rw [if_pos k8]
  generalize hkd : S.kd = kd at *
  clear hkd k5 k1 k2 k3 k4 k6 k7
  clear hnth hsta hcl hid hlk1 hlk2 hip
  rcases k8 with rfl | rfl
  ·exact cWy 172 8 Tryz.func18
  ·exact cWy 172 8 Tryz.func18
 rw [if_neg k8]
 by_cases k10 : S.kd = 10
 ·rw [if_pos k10]
  generalize hkd : S.kd = kd at *
  subst k10
  clear hkd k5 k1 k2 k3 k4 k6 k7 k8
  clear hnth hsta hcl hid hlk1 hlk2 hip
  exact cWy 172 8 Tryz.func18
 rw [if_neg k10]
 by_cases k11 : S.kd = 11
 ·rw [if_pos k11]
  generalize hkd : S.kd = kd at *
  subst k11
  clear hkd k5 k1 k2 k3 k4 k6 k7 k8 k10
  clear hnth hlst hcl hid hlk1 hlk2 hip
  exact cWy 172 8 Tryz.func18
 rw [if_neg k11]
 by_cases k12 : S.kd = 12
 ·rw [if_pos k12]
  generalize hkd : S.kd = kd at *
  subst k12
  clear hkd k5 k1 k2 k3 k4 k6 k7 k8 k10 k11
  clear hnth hlst hsta hcl hid hip
  cases c1 : (X.nm == [97]) with
  | true =>
   cases p1 with
   | true =>
    exact cWy 172 8 Tryz.func18
   | false =>
    exact cWy 172 8 Tryz.func18
  | false =>
   cases c2 : (X.nm == [97, 114, 101, 97]) with
   | true =>
    cases p1 with
    | true =>
     exact cWy 172 8 Tryz.func18
    | false =>
     exact cWy 172 8 Tryz.func18
   | false =>
    exact cWy 172 8 Tryz.func18
 rw [if_neg k12]
 have k8' : ¬ S.kd = 8 := fun e => k8 (.inl e)
 have k9 : ¬ S.kd = 9 := fun e => k8 (.inr e)
 have n1 := (neI k1).1
 have n2 := (neI k2).1
 have n3 := (neI k3).1
 have n4 := (neI k4).1
 have n5 := (neI k5).1
 have n6 := (neI k6).1
 have n7 := (neI k7).1
 have n8 := (neI k8').1
 have n9 := (neI k9).1
 have n10 := (neI k10).1
 have n11 := (neI k11).1
 have n12 := (neI k12).1
 clear k1 k2 k3 k4 k5 k6 k7 k8 k8' k9 k10 k11 k12
 clear hnth hlst hsta hcl hid hlk1 hlk2 hip
 exact cWy 172 8 Tryz.func18
end Go.Av
namespace Go.Av
open Go.Proofs
variable [Rk] {chk : List D → Bool}
theorem rowI_el {ns : List Nd} (hR : RightT ns) {n : Int} (he : elB ns n = true) : ∀ j ∈ rowI ns n, elB ns j = true := fun j hj => by
 rcases row_last he j hj with h | rfl
 ·exact (hR.row n he j h).1
 ·exact he
theorem ls_form {m : Nat} {S : D → Bool} {l : List D} (h : lsOk m S l = true) : ∀ c ∈ l, c = cxD (cxL c) := fun c hc => by
 obtain ⟨l1, rfl, _, _⟩ := cxOk_inv ((lsOk_mem h).2 c hc)
 rfl
theorem rS18 {ns : List Nd} {nm : Nam} (hn : nm.ok) (hS : SmallD ns) (hR : RightT ns) : ∀ (k : Nat), k ≤ 45 → ∀ s, smN k s = true → ∀ j, elB ns j = true →
  callL Tryz.prog (ext11b chk) 18 [.list (ns.map Nd.d), (sf s).d, .agg nm.cs, .int .i64 j] [] = some (.bool (sV ns nm s j), [.no], [])
 | 0, _, s, h, _, _ => by simp [smN] at h
 | k + 1, hk, s, h, j, hj => by
  obtain ⟨h1, h2, h3, h4⟩ := smN_inv h
  obtain ⟨e, e1, e2, e3, _⟩ := smOk_inv h1
  rw [sV_step h1 (by omega) j]
  have hst : stepV ns nm (listV (sV ns nm) ns) s j = stepV ns nm (listV (sV ns nm) ns) (sf s).d j := by rw [← e]
  rw [hst]
  refine rsimple18_L (chk := chk) ns nm j (sf s) hn hS hj (rowI_el hR hj) (by omega) (by omega) h2 h3 (listV (sV ns nm) ns) fun i hi => ?_
  have hl := lsOk_mem h4
  have := rlist_L (chk := chk) ns nm (sf s).of_ i [] (fun c => complexV (sV ns nm) ns c i []) hl.1 (ls_form h4) (fun c hc =>
   rcomp_L (k := 49) (Q := smN k) ns nm c i [] (fun d hd => smOk_up _ _ (smN_ok hd) 50 (by omega)) (sV ns nm) hS.1 hR (hl.2 c hc) (fun d hd i' hi' => rS18 hn hS hR k (by omega) d hd i' hi'))
  rw [this]
  have h5 : ((sf s).of_.any fun c => complexV (sV ns nm) ns c i []) = listV (sV ns nm) ns (sf s).of_ i := rlist_eq hR (S := sV ns nm) (S' := sV ns nm) (fun _ _ _ _ => rfl) (sf s).of_ i hi
  rw [h5]
theorem rcompA_L {ns : List Nd} {nm : Nam} {c : D} {k : Nat} (hk : k ≤ 45) (hS : SmallD ns) (hR : RightT ns) (hn : nm.ok) (hc : cxOk 100 (smN k) c = true) (n : Int) (ps : List UInt8) :
  callL Tryz.prog (ext11b chk) 21 [.list (ns.map Nd.d), c, .agg nm.cs, .agg [.int .i64 n, .str ps]] [] = some (.bool (complexP ns nm c n ps), [.no], []) := by
 have := rcomp_L (chk := chk) (k := 49) (Q := smN k) ns nm c n ps (fun d hd => smOk_up _ _ (smN_ok hd) 50 (by omega)) (sV ns nm) hS.1 hR hc (fun d hd i' hi' => rS18 hn hS hR k hk d hd i' hi')
 rw [this, complex_row hR]
 rfl
theorem rselA_L {ns : List Nd} {nm : Nam} {l : List D} {k : Nat} (hk : k ≤ 45) (hS : SmallD ns) (hR : RightT ns) (hn : nm.ok) (hl : lsOk 100 (smN k) l = true) (n : Int) (ps : List UInt8) :
  callL Tryz.prog (ext11b chk) 19 [.list (ns.map Nd.d), .list l, .agg nm.cs, .agg [.int .i64 n, .str ps]] [] = some (.bool (selV ns nm l n ps), [.no], []) := by
 obtain ⟨h1, h2⟩ := lsOk_mem hl
 exact rlist_L (chk := chk) ns nm l n ps (fun c => complexP ns nm c n ps) h1 (ls_form hl) (fun c hc => rcompA_L hk hS hR hn (h2 c hc) n ps)
end Go.Av
set_option maxRecDepth 10000
namespace Go.Av.Yq
open Go.Proofs Go.Av
theorem ty63 : aggOf Tryz.prog 63 = some true ∧ sizeT Tryz.prog 63 = some 3 := ⟨by kernel_rfl, by kernel_rfl⟩
theorem dp63 (x0 x1 x2 : D) : dpart Tryz.prog 63 [x0, x1, x2] 0 = some (.agg [x0, x1, x2]) := by simp only [dpart, ty63.1, ty63.2]; rfl
theorem fa63_0 (d : D) (off : Nat) : dfieldAddr Tryz.prog 63 (.fix d off) 0 = some (.fix d (off + 0)) := by kernel_rfl
theorem fp63_0 (k g off : Nat) : dfieldAddr Tryz.prog 63 (.ptr k g off) 0 = some (.ptr k g (off + 0)) := by kernel_rfl
theorem fa63_1 (d : D) (off : Nat) : dfieldAddr Tryz.prog 63 (.fix d off) 1 = some (.fix d (off + 1)) := by kernel_rfl
theorem fp63_1 (k g off : Nat) : dfieldAddr Tryz.prog 63 (.ptr k g off) 1 = some (.ptr k g (off + 1)) := by kernel_rfl
theorem fa63_2 (d : D) (off : Nat) : dfieldAddr Tryz.prog 63 (.fix d off) 2 = some (.fix d (off + 2)) := by kernel_rfl
theorem fp63_2 (k g off : Nat) : dfieldAddr Tryz.prog 63 (.ptr k g off) 2 = some (.ptr k g (off + 2)) := by kernel_rfl
theorem ty54 : elemT Tryz.prog 54 = some 51 ∧ Tryz.prog.underlying 54 = some (.slice 51) ∧ aggOf Tryz.prog 54 = some false := ⟨by kernel_rfl, by kernel_rfl, by kernel_rfl⟩
theorem dp54 (cs : List D) (off : Nat) : dpart Tryz.prog 54 cs off = cs[off]? := by simp only [dpart, ty54.2.2]
theorem ia54 (es : List D) (ki : IntKind) (i : Int) : dindexAddr Tryz.prog 54 (.list es) (.int ki i) = if 0 ≤ i ∧ i < es.length then (if (dcells (es.getD i.toNat .bad)).length = 2 then some (.fix (es.getD i.toNat .bad) 0) else none) else none := by
 simp only [dindexAddr, ty54.1, Ys.ty51.2]
theorem len54 (l : List D) : dlen Tryz.prog #[54] (.list l) = some (.int .i64 l.length) := by kernel_rfl
theorem bd63_0 : dbuild Tryz.prog 63 [] = some (.agg [.int .i64 0, .int .i64 0, .int .i64 0]) := by kernel_rfl
theorem bd63_3 (a b c : Int) : dbuild Tryz.prog 63 [(0, .int .i64 a), (1, .int .i64 b), (2, .int .i64 c)] = some (.agg [.int .i64 a, .int .i64 b, .int .i64 c]) := by kernel_rfl
theorem bs81_3 (a b c : Int) : dbuildSlice Tryz.prog 81 3 [(0, .int .i64 a), (1, .int .i64 b), (2, .int .i64 c)] = some (.list [.int .i64 a, .int .i64 b, .int .i64 c]) := by kernel_rfl
theorem bs54_1 (n : Int) (s : List UInt8) : dbuildSlice Tryz.prog 54 1 [(0, .agg [.int .i64 n, .str s])] = some (.list [.agg [.int .i64 n, .str s]]) := by kernel_rfl
theorem bs54_0 : dbuildSlice Tryz.prog 54 0 [] = some (.list []) := by kernel_rfl
theorem zrm63 : zrooms Tryz.prog 63 = [.no, .no, .no] := by kernel_rfl
theorem zrm48 : zrooms Tryz.prog 48 = [.full] := by kernel_rfl
theorem bs23_0 : dbuildSlice Tryz.prog 23 0 [] = some (.list []) := by kernel_rfl
theorem eq63 (a b c a' b' c' : Int) : dStructEq Tryz.prog 63 [.int .i64 a, .int .i64 b, .int .i64 c] [.int .i64 a', .int .i64 b', .int .i64 c'] = some (a == a' && (b == b' && c == c')) := by
 have h : dStructEq Tryz.prog 63 [.int .i64 a, .int .i64 b, .int .i64 c] [.int .i64 a', .int .i64 b', .int .i64 c'] = (match some (a == a') with | some true => (match some (b == b') with | some true => (match some (c == c') with | some true => some true | r => r) | r => r) | r => r) := by kernel_rfl
 rw [h]
 cases (a == a') <;> cases (b == b') <;> cases (c == c') <;> rfl
theorem eq51 (a a' : Int) (s s' : List UInt8) : dStructEq Tryz.prog 51 [.int .i64 a, .str s] [.int .i64 a', .str s'] = some (a == a' && s == s') := by
 have h : dStructEq Tryz.prog 51 [.int .i64 a, .str s] [.int .i64 a', .str s'] = (match some (a == a') with | some true => (match some (s == s') with | some true => some true | r => r) | r => r) := by kernel_rfl
 rw [h]
 cases (a == a') <;> cases (s == s') <;> rfl
theorem ap23 (es fs : List D) (r : List Room) : dappend Tryz.prog #[23, 23] (.list es) (.list fs) r = if lenOk (es.length + fs.length) 24 = true ∧ szOk 1 fs = true ∧ szOk 1 es = true ∧ (r = [.full] ∨ r = [.own 48] ∨ r = [.fresh]) then some (.list (es ++ fs), 48) else none := by
 have : (Tryz.prog.info? 48).map (fun i => (infoOk i, i.size, i.bytes)) = some (true, 1, 24) := by kernel_rfl
 obtain ⟨i, hi, h⟩ := Option.map_eq_some_iff.1 this
 injection h with h1 h2
 injection h2 with h2 h3
 simp only [dappend, Ys.ty23.1, hi, h1, h2, h3, if_true, true_and]
theorem ap54 (es fs : List D) (r : List Room) : dappend Tryz.prog #[54, 54] (.list es) (.list fs) r = if lenOk (es.length + fs.length) 24 = true ∧ szOk 2 fs = true ∧ szOk 2 es = true ∧ (r = [.full] ∨ r = [.own 51] ∨ r = [.fresh]) then some (.list (es ++ fs), 51) else none := by
 have : (Tryz.prog.info? 51).map (fun i => (infoOk i, i.size, i.bytes)) = some (true, 2, 24) := by kernel_rfl
 obtain ⟨i, hi, h⟩ := Option.map_eq_some_iff.1 this
 injection h with h1 h2
 injection h2 with h2 h3
 simp only [dappend, ty54.1, hi, h1, h2, h3, if_true, true_and]
theorem AVQ : type_of% (An (An (An (An (@ty63) (An (@dp63) (@fa63_0))) (An (@fp63_0) (An (@fa63_1) (@fp63_1)))) (An (An (@fa63_2) (An (@fp63_2) (@ty54))) (An (@dp54) (An (@ia54) (@len54))))) (An (An (An (@bd63_0) (An (@bd63_3) (@bs81_3))) (An (@bs54_1) (An (@bs54_0) (@zrm63)))) (An (An (@zrm48) (An (@bs23_0) (@eq63))) (An (@eq51) (An (@ap23) (@ap54)))))) := An (An (An (An (@ty63) (An (@dp63) (@fa63_0))) (An (@fp63_0) (An (@fa63_1) (@fp63_1)))) (An (An (@fa63_2) (An (@fp63_2) (@ty54))) (An (@dp54) (An (@ia54) (@len54))))) (An (An (An (@bd63_0) (An (@bd63_3) (@bs81_3))) (An (@bs54_1) (An (@bs54_0) (@zrm63)))) (An (An (@zrm48) (An (@bs23_0) (@eq63))) (An (@eq51) (An (@ap23) (@ap54)))))
end Go.Av.Yq
namespace Go.Av
theorem Wq {p : Prop} (h : p := by repeat' (first|simp only [*, AVB, AVY, Yq.AVQ, ↓reduceIte, Nat.reduceEqDiff, Nat.reduceLT, Nat.reduceLeDiff, reduceCtorEq, Nat.reduceBEq, String.reduceBEq, Nat.reduceAdd, Nat.reduceSub, Nat.reduceMul, Int.reduceLE, Int.reduceLT, Int.reduceToNat, Int.reduceBEq, Int.reduceBNe, List.zipWith, dIntBin]|refine drW_intro (by kernel_rfl) ?_|refine gw_intro (fun h => ?_) (fun h => ?_) <;> try simp only [AVH] at h)) : p := h
theorem Gq {p q : Prop} (k : q) (h : p = q := by simp only [*, AVB, AVY, Yq.AVQ, ↓reduceIte, Nat.reduceEqDiff, Nat.reduceLT, Nat.reduceLeDiff, reduceCtorEq, Nat.reduceBEq, String.reduceBEq, Nat.reduceAdd, Nat.reduceSub, Nat.reduceMul, Int.reduceLE, Int.reduceLT, Int.reduceToNat, Int.reduceBEq, Int.reduceBNe, List.zipWith, dIntBin]; rfl) : p := by rw [h]; exact k
theorem Iq {p : Prop} (h : p := by first | (simp only [*, AVB, AVY, Yq.AVQ, ↓reduceIte, Nat.reduceEqDiff, Nat.reduceLT, Nat.reduceLeDiff, reduceCtorEq, Nat.reduceBEq, String.reduceBEq, Nat.reduceAdd, Nat.reduceSub, Nat.reduceMul, Int.reduceLE, Int.reduceLT, Int.reduceToNat, Int.reduceBEq, Int.reduceBNe, List.zipWith, dIntBin]; done) | (simp only [*, AVB, AVY, Yq.AVQ, ↓reduceIte, Nat.reduceEqDiff, Nat.reduceLT, Nat.reduceLeDiff, reduceCtorEq, Nat.reduceBEq, String.reduceBEq, Nat.reduceAdd, Nat.reduceSub, Nat.reduceMul, Int.reduceLE, Int.reduceLT, Int.reduceToNat, Int.reduceBEq, Int.reduceBNe, List.zipWith, dIntBin]; rfl) | rfl) : p := h
theorem Zq {p : Prop} (h : p := by simp only [slotI, *, AVB, AVY, Yq.AVQ, ↓reduceIte, Nat.reduceEqDiff, Nat.reduceLT, Nat.reduceLeDiff, reduceCtorEq, Nat.reduceBEq, String.reduceBEq, Nat.reduceAdd, Nat.reduceSub, Nat.reduceMul, Int.reduceLE, Int.reduceLT, Int.reduceToNat, Int.reduceBEq, Int.reduceBNe, List.zipWith, dIntBin]; omega) : p := h
theorem cWq {P : Program} {ext : FuncId → List D → List Bx → Option (D × List Room × List Bx)} (m r : Nat) {f : FuncId} {fn : Func} {c : Code} {args : List D} {pbs : List Bx} {R : D × List Room × List Bx} (hf : P.funcs[f]? = some fn)
  (hx : ext f args pbs = none := by exact rfl) (hb : fn.body = some c := by exact rfl) (hm : max args.length fn.ntmps = m := by exact rfl) (hres : resTmps fn = [r] := by exact rfl) (hrs : fn.results.toList = [.tmp r] := by exact rfl) (hn : noTwice [r] = true := by exact rfl) (h : goX P ext m [r] (endQ P [.tmp r] pbs.length R) [.code c] .normal (entry args pbs) := by repeat' (first|simp only [*, AVB, AVY, Yq.AVQ, ↓reduceIte, Nat.reduceEqDiff, Nat.reduceLT, Nat.reduceLeDiff, reduceCtorEq, Nat.reduceBEq, String.reduceBEq, Nat.reduceAdd, Nat.reduceSub, Nat.reduceMul, Int.reduceLE, Int.reduceLT, Int.reduceToNat, Int.reduceBEq, Int.reduceBNe, List.zipWith, dIntBin]|refine drW_intro (by kernel_rfl) ?_|refine gw_intro (fun h => ?_) (fun h => ?_) <;> try simp only [AVH] at h)) : callL P ext f args pbs = some R :=
  callK hx hf hb hm hres hrs hn h
end Go.Av
set_option maxRecDepth 100000
namespace Go.Av
open Go.Proofs
def subsL (S : Int → List UInt8 → Bool) (n : Int) (ps : List (List UInt8)) : List D := (ps.filter (S n)).map fun p => .agg [.int .i64 n, .str p]
def allL (S : Int → List UInt8 → Bool) (ps : List (List UInt8)) : List Int → List D
 | [] => []
 | n :: r => subsL S n ps ++ allL S ps r
theorem subsL_at {S : Int → List UInt8 → Bool} {n : Int} {ps : List (List UInt8)} {k : Nat} {p : List UInt8} (h : ps[k]? = some p) :
  subsL S n (ps.drop k) = (if S n p = true then [D.agg [.int .i64 n, .str p]] else []) ++ subsL S n (ps.drop (k + 1)) := by
 have h1 : k < ps.length := (List.getElem?_eq_some_iff.1 h).1
 have e1 : ps[k] = p := (List.getElem?_eq_some_iff.1 h).2
 rw [List.drop_eq_getElem_cons h1, e1]
 unfold subsL
 rw [List.filter_cons]
 split <;> rfl
theorem allL_at {S : Int → List UInt8 → Bool} {ps : List (List UInt8)} {es : List Int} {k : Nat} {n : Int} (h : es[k]? = some n) : allL S ps (es.drop k) = subsL S n ps ++ allL S ps (es.drop (k + 1)) := by
 have h1 : k < es.length := (List.getElem?_eq_some_iff.1 h).1
 have e1 : es[k] = n := (List.getElem?_eq_some_iff.1 h).2
 rw [List.drop_eq_getElem_cons h1, e1, allL]
theorem subsL_none {S : Int → List UInt8 → Bool} {n : Int} {ps : List (List UInt8)} (h : ∀ p, S n p = false) : subsL S n ps = [] := by
 unfold subsL
 rw [show ps.filter (S n) = [] from List.filter_eq_nil_iff.2 fun p _ => by simp [h p]]
 rfl
theorem allL_append {S : Int → List UInt8 → Bool} {ps : List (List UInt8)} : ∀ (a b : List Int), allL S ps (a ++ b) = allL S ps a ++ allL S ps b
 | [], _ => rfl
 | n :: r, b => by
  show subsL S n ps ++ allL S ps (r ++ b) = subsL S n ps ++ allL S ps r ++ allL S ps b
  rw [allL_append r b, List.append_assoc]
theorem allL_el {S : Int → List UInt8 → Bool} {ps : List (List UInt8)} {ns : List Nd} (h : ∀ n p, elB ns n = false → S n p = false) : ∀ k, k ≤ ns.length → allL S ps (elL ns k) = allL S ps ((List.range k).map fun (i : Nat) => (i : Int))
 | 0, _ => rfl
 | k + 1, hk => by
  rw [List.range_succ, List.map_append, allL_append, ← allL_el h k (by omega)]
  have hlast : allL S ps ([k].map fun (i : Nat) => (i : Int)) = subsL S (k : Int) ps := by
   show subsL S (k : Int) ps ++ [] = _
   rw [List.append_nil]
  rw [hlast]
  rw [elL]
  split
  ·rw [allL_append]
   show _ ++ (subsL S (k : Int) ps ++ []) = _
   rw [List.append_nil]
  ·rename_i hk1
   have he : elB ns (k : Int) = false := by
    unfold elB
    have : (kAt ns (k : Int).toNat == 1) = false := by simpa using hk1
    rw [this]
    simp
   rw [subsL_none fun p => h _ p he, List.append_nil]
def roomS : List D → Room
 | [] => .full
 | _ => .own 51
theorem roomS_ok (l : List D) : roomS l = .full ∨ roomS l = .own 51 ∨ roomS l = .fresh := by cases l <;> simp [roomS]
theorem roomS_app (l : List D) (x : D) : roomS (l ++ [x]) = .own 51 := by cases l <;> rfl
theorem sz2_app (l : List D) (n : Int) (p : List UInt8) (h : szOk 2 l = true) : szOk 2 (l ++ [.agg [.int .i64 n, .str p]]) = true := by cases l <;> exact h
structure AllA (S : Int → List UInt8 → Bool) (R out : List D) (rest : List D) (m : Nat) : Prop where
 e : R = out ++ rest
 l : out.length ≤ m
 z : szOk 2 out = true
variable [R : Rk] {chk : List D → Bool}
theorem ix88 (n : Nat) (p : List UInt8) (h : elS[n]? = some p) : dindex Tryz.prog 88 (.agg elD) (.int .i64 n) = some (.str p) := by
 have h1 : n < 9 := (List.getElem?_eq_some_iff.1 h).1
 have e : p = elS.getD n [] := by simp [List.getD, h]
 subst e
 rcases n with _ | _ | _ | _ | _ | _ | _ | _ | _ | n
 all_goals first | omega | (show (_ : Option D) = _; kernel_rfl)
set_option maxHeartbeats 8000000 in
theorem all15_L (hg : Gs.gl 0 = .fix (.agg elD) 0) (ns : List Nd) (hS : ns.length ≤ 10000) (a : List D) (nm : Nam) (S : Int → List UInt8 → Bool)
  (hs : ∀ n p, callL Tryz.prog (ext11b chk) 14 [treeN ns, .list a, .agg nm.cs, .agg [.int .i64 n, .str p]] [] = some (.bool (S n p), [.no], [])) :
  callL Tryz.prog (ext11b chk) 15 [treeN ns, .list a, .agg nm.cs] [] = some (.list (allL S elS (elL ns ns.length)), [roomS (allL S elS (elL ns ns.length))], []) := by
 have hE := elements_L (chk := chk) ns hS
 have hl := elL_len (ns := ns) (m := ns.length)
 have hp0 : dpart Tryz.prog 88 elD 0 = some (.agg elD) := by kernel_rfl
 obtain ⟨T, hT⟩ := tree_fix ns
 generalize treeN ns = T0 at *
 subst hT
 generalize elL ns ns.length = E at *
 have lE : ((E.map (D.int .i64)).length : Int) = E.length := by simp
 have HL : Hd (E.length ≤ 10000) := Hd.mk (by omega)
 have HS := Hd.mk hs
 clear hl hS hs
 obtain ⟨R, hR⟩ : ∃ R, Hd (R = allL S elS E) := ⟨_, rfl⟩
 rw [← (show R = allL S elS E from hR)]
 unfold Nam.cs at *
 refine cK 38 6 Tryz.func15 ?_
 refine Gq ?_
 refine loopH (fun st => ∃ (i : Nat) (r5 : List Room) (out : List D), i ≤ E.length ∧ st.slot 15 = .int .i64 i ∧ st.slot 14 = .int .i64 E.length ∧ st.slot 13 = .list (E.map (.int .i64)) ∧ st.slot 0 = .fix T 0 ∧ st.slot 1 = .list a ∧ st.slot 5 = .ptr 5 1 0 ∧ st.box 5 = some ⟨1, [.bool nm.has, .str nm.dft, .list (nm.pre.map .str), .list (nm.sps.map .str)], r5⟩ ∧ st.slot 6 = .list out ∧ st.room 6 = [roomS out] ∧ Hd (AllA S R out (allL S elS (E.drop i)) (9 * i))) (fun st => E.length - slotI st 15) ?_ ?_
 ·exact ⟨0, (padR [] 4).take 4, [], Nat.zero_le _, Iq, Iq, Iq, Iq, Iq, Iq, Iq, Iq, Iq, ⟨hR, Nat.le_refl _, rfl⟩⟩
 ·rintro st K ⟨i, r5, out, hi, g15, g14, g13, g0, g1, g5, b5, g6, r6, hO⟩ hn hx hr
  have hl : E.length ≤ 10000 := HL
  by_cases h : i < E.length
  ·have k9 : (i : Int) < E.length := by omega
   have hw := wrapS i (by omega)
   obtain ⟨n, hn1⟩ := some_at h
   have ha : (E.map (D.int .i64)).getD i .bad = .int .i64 n := getD_map (f := D.int .i64) hn1
   obtain ⟨o1, o2, o3⟩ := (show AllA S R out (allL S elS (E.drop i)) (9 * i) from hO)
   rw [allL_at hn1] at o1
   have HO : Hd (AllA S R out (subsL S n (elS.drop 0) ++ allL S elS (E.drop (i + 1))) (9 * i + 0)) := Hd.mk ⟨o1, o2, o3⟩
   have HI := Hd.mk h
   have HN := Hd.mk hn1
   clear hx hr hn1 hl o1 o2 o3 hO h
   refine Gq ?_
   refine loopH (fun s2 => ∃ (k : Nat) (r5 : List Room) (out : List D), k ≤ 9 ∧ s2.slot 20 = .int .i64 k ∧ s2.slot 19 = .agg elD ∧ s2.slot 8 = .int .i64 n ∧ s2.slot 15 = .int .i64 i ∧ s2.slot 14 = .int .i64 E.length ∧ s2.slot 13 = .list (E.map (.int .i64)) ∧ s2.slot 0 = .fix T 0 ∧ s2.slot 1 = .list a ∧ s2.slot 5 = .ptr 5 1 0 ∧ s2.box 5 = some ⟨1, [.bool nm.has, .str nm.dft, .list (nm.pre.map .str), .list (nm.sps.map .str)], r5⟩ ∧ s2.slot 6 = .list out ∧ s2.room 6 = [roomS out] ∧ Hd (AllA S R out (subsL S n (elS.drop k) ++ allL S elS (E.drop (i + 1))) (9 * i + k))) (fun s2 => 9 - slotI s2 20) ?_ ?_
   ·exact ⟨0, r5, out, Nat.zero_le _, Iq, Iq, Iq, Iq, Iq, Iq, Iq, Iq, Iq, Iq, Iq, Iq, HO⟩
   ·rintro s2 K2 ⟨k, r5, out, hk, f20, f19, f8, f15, f14, f13, f0, f1, f5, c5, f6, q6, hO⟩ hn2 hx2 hr2
    have hl : E.length ≤ 10000 := HL
    have hi : i < E.length := HI
    have G15 := Hd.mk g15
    clear g15 g14 g13 g0 g1 g5 b5 g6 r6
    by_cases h : k < 9
    ·have k8 : (k : Int) < 9 := by omega
     have hw2 := wrapS k (by omega)
     obtain ⟨p, hp⟩ := some_at (show k < elS.length from h)
     have hix := ix88 k p hp
     clear hp0 hg
     have hc := (show ∀ n p, callL Tryz.prog (ext11b chk) 14 [.fix T 0, .list a, .agg nm.cs, .agg [.int .i64 n, .str p]] [] = some (.bool (S n p), [.no], []) from HS) n p
     unfold Nam.cs at hc
     obtain ⟨o1, o2, o3⟩ := (show AllA S R out (subsL S n (elS.drop k) ++ allL S elS (E.drop (i + 1))) (9 * i + k) from hO)
     rw [subsL_at hp] at o1
     cases hv : S n p with
     | true =>
      rw [hv] at hc
      rw [hv, if_pos rfl, List.append_assoc, ← List.append_assoc] at o1
      have z1 := sz2_app out n p o3
      have HO : Hd (AllA S R (out ++ [.agg [.int .i64 n, .str p]]) (subsL S n (elS.drop (k + 1)) ++ allL S elS (E.drop (i + 1))) (9 * i + (k + 1))) := Hd.mk ⟨o1, by simp; omega, z1⟩
      have a1 := roomS_ok out
      have a2 := roomS_app out (.agg [.int .i64 n, .str p])
      have a3 : szOk 2 [D.agg [.int .i64 n, .str p]] = true := rfl
      have a4 : lenOk (out.length + 1) 24 = true := by unfold lenOk; simp; omega
      clear hx2 hr2 hp o1 o2 hv hi hl hn hO
      refine Gq ?_
      exact hn2 _ ⟨k + 1, r5, _, h, L, L, L, L, L, L, L, L, L, L, L, L, HO⟩ Zq
     | false =>
      rw [hv] at hc
      rw [hv, if_neg (by decide), List.nil_append] at o1
      have HO : Hd (AllA S R out (subsL S n (elS.drop (k + 1)) ++ allL S elS (E.drop (i + 1))) (9 * i + (k + 1))) := Hd.mk ⟨o1, by omega, o3⟩
      clear hx2 hr2 hp o1 o2 o3 hv hi hl hn hO
      refine Gq ?_
      exact hn2 _ ⟨k + 1, r5, _, h, L, L, L, L, L, L, L, L, L, L, L, L, HO⟩ Zq
    ·have hk9 : k = 9 := by omega
     have k8 : ¬ (k : Int) < 9 := by omega
     have HO : Hd (AllA S R out (allL S elS (E.drop (i + 1))) (9 * (i + 1))) := by
      rw [hk9] at hO
      obtain ⟨o1, o2, o3⟩ := (show AllA S R out (subsL S n (elS.drop 9) ++ allL S elS (E.drop (i + 1))) (9 * i + 9) from hO)
      exact Hd.mk ⟨o1, by omega, o3⟩
     clear hn2 hr2 h hl hO hk9
     refine Gq ?_
     refine hx2 _ _ ?_
     refine Gq ?_
     have g15 : st.slot 15 = .int .i64 i := G15
     exact hn _ ⟨i + 1, r5, out, hi, L, L, L, L, L, L, L, L, L, HO⟩ Zq
  ·obtain rfl : i = E.length := by omega
   have k9 : ¬ (E.length : Int) < E.length := by omega
   obtain ⟨o1, o2, o3⟩ := (show AllA S R out (allL S elS (E.drop E.length)) (9 * E.length) from hO)
   rw [List.drop_length] at o1
   have o4 : R = out := by rw [o1]; exact List.append_nil _
   subst o4
   clear hn hr h hl o1 o2 o3 hO
   refine Gq ?_
   exact hx _ _ Wq
end Go.Av
namespace Go.Av
open Go.Proofs
variable [R : Rk] {chk : List D → Bool}
theorem pseudos_L : callL Tryz.prog (ext11b chk) 36 [] [] = some (.list elD, [.full], []) := by
 have h : dbuildSlice Tryz.prog 24 9 [(0, .str []), (1, .str [98, 101, 102, 111, 114, 101]), (2, .str [97, 102, 116, 101, 114]), (3, .str [102, 105, 114, 115, 116, 45, 108, 105, 110, 101]), (4, .str [102, 105, 114, 115, 116, 45, 108, 101, 116, 116, 101, 114]), (5, .str [109, 97, 114, 107, 101, 114]), (6, .str [115, 101, 108, 101, 99, 116, 105, 111, 110]), (7, .str [112, 108, 97, 99, 101, 104, 111, 108, 100, 101, 114]), (8, .str [98, 97, 99, 107, 100, 114, 111, 112])] = some (.list elD) := by kernel_rfl
 exact cWq 2 0 Tryz.func36
set_option maxHeartbeats 8000000 in
theorem all16_L (ns : List Nd) (hS : ns.length ≤ 10000) (a : List D) (nm : Nam) (S : Int → List UInt8 → Bool)
  (hs : ∀ n p, callL Tryz.prog (ext11b chk) 19 [.list (ns.map Nd.d), .list a, .agg nm.cs, .agg [.int .i64 n, .str p]] [] = some (.bool (S n p), [.no], [])) :
  callL Tryz.prog (ext11b chk) 16 [.list (ns.map Nd.d), .list a, .agg nm.cs] [] = some (.list (allL S elS ((List.range ns.length).map fun (i : Nat) => (i : Int))), [roomS (allL S elS ((List.range ns.length).map fun (i : Nat) => (i : Int)))], []) := by
 have h36 := pseudos_L (chk := chk)
 have lN := lenM ns Nd.d
 have l9 : (elD.length : Int) = 9 := by kernel_rfl
 have lE : ((List.range ns.length).map fun (i : Nat) => (i : Int)).length = ns.length := by simp
 have hg : ∀ i, i < ns.length → ((List.range ns.length).map fun (i : Nat) => (i : Int))[i]? = some (i : Int) := fun i hi => by simp [hi]
 generalize (List.range ns.length).map (fun (i : Nat) => (i : Int)) = E at *
 generalize ns.map Nd.d = NS at *
 generalize ns.length = m at *
 have HG := Hd.mk hg
 have HLE := Hd.mk lE
 have HL : Hd (m ≤ 10000) := Hd.mk hS
 have HS := Hd.mk hs
 clear hS hs hg lE
 obtain ⟨R, hR⟩ : ∃ R, Hd (R = allL S elS E) := ⟨_, rfl⟩
 rw [← (show R = allL S elS E from hR)]
 unfold Nam.cs at *
 refine cK 45 6 Tryz.func16 ?_
 refine Gq ?_
 refine loopH (fun st => ∃ (i : Nat) (r5 : List Room) (out : List D), i ≤ m ∧ st.slot 9 = .int .i64 i ∧ st.slot 8 = .list elD ∧ st.slot 0 = .list NS ∧ st.slot 1 = .list a ∧ st.slot 5 = .ptr 5 1 0 ∧ st.box 5 = some ⟨1, [.bool nm.has, .str nm.dft, .list (nm.pre.map .str), .list (nm.sps.map .str)], r5⟩ ∧ st.slot 7 = .list out ∧ st.room 7 = [roomS out] ∧ Hd (AllA S R out (allL S elS (E.drop i)) (9 * i))) (fun st => m - slotI st 9) ?_ ?_
 ·exact ⟨0, (padR [] 4).take 4, [], Nat.zero_le _, Iq, Iq, Iq, Iq, Iq, Iq, Iq, Iq, ⟨hR, Nat.le_refl _, rfl⟩⟩
 ·rintro st K ⟨i, r5, out, hi, g9, g8, g0, g1, g5, b5, g7, r7, hO⟩ hn hx hr
  have hl : m ≤ 10000 := HL
  by_cases h : i < m
  ·have k9 : (i : Int) < m := by omega
   have hw := wrapS i (by omega)
   have hn1 := (show ∀ i, i < m → E[i]? = some (i : Int) from HG) i h
   obtain ⟨o1, o2, o3⟩ := (show AllA S R out (allL S elS (E.drop i)) (9 * i) from hO)
   rw [allL_at hn1] at o1
   have HO : Hd (AllA S R out (subsL S i (elS.drop 0) ++ allL S elS (E.drop (i + 1))) (9 * i + 0)) := Hd.mk ⟨o1, o2, o3⟩
   have HI := Hd.mk h
   clear hx hr hn1 hl o1 o2 o3 hO h
   refine Gq ?_
   refine loopH (fun s2 => ∃ (k : Nat) (r5 : List Room) (out : List D), k ≤ 9 ∧ s2.slot 10 = .int .i64 k ∧ s2.slot 9 = .int .i64 i ∧ s2.slot 8 = .list elD ∧ s2.slot 0 = .list NS ∧ s2.slot 1 = .list a ∧ s2.slot 5 = .ptr 5 1 0 ∧ s2.box 5 = some ⟨1, [.bool nm.has, .str nm.dft, .list (nm.pre.map .str), .list (nm.sps.map .str)], r5⟩ ∧ s2.slot 7 = .list out ∧ s2.room 7 = [roomS out] ∧ Hd (AllA S R out (subsL S i (elS.drop k) ++ allL S elS (E.drop (i + 1))) (9 * i + k))) (fun s2 => 9 - slotI s2 10) ?_ ?_
   ·exact ⟨0, r5, out, Nat.zero_le _, Iq, Iq, Iq, Iq, Iq, Iq, Iq, Iq, Iq, HO⟩
   ·rintro s2 K2 ⟨k, r5, out, hk, f10, f9, f8, f0, f1, f5, c5, f7, q7, hO⟩ hn2 hx2 hr2
    have hl : m ≤ 10000 := HL
    have hi : i < m := HI
    have G9 := Hd.mk g9
    clear g9 g8 g0 g1 g5 b5 g7 r7
    by_cases h : k < 9
    ·have k8 : (k : Int) < 9 := by omega
     have hw2 := wrapS k (by omega)
     obtain ⟨p, hp⟩ := some_at (show k < elS.length from h)
     have hix : elD.getD k .bad = .str p := getD_map (f := D.str) hp
     have hc := (show ∀ n p, callL Tryz.prog (ext11b chk) 19 [.list NS, .list a, .agg nm.cs, .agg [.int .i64 n, .str p]] [] = some (.bool (S n p), [.no], []) from HS) i p
     unfold Nam.cs at hc
     obtain ⟨o1, o2, o3⟩ := (show AllA S R out (subsL S i (elS.drop k) ++ allL S elS (E.drop (i + 1))) (9 * i + k) from hO)
     rw [subsL_at hp] at o1
     cases hv : S i p with
     | true =>
      rw [hv] at hc
      rw [hv, if_pos rfl, List.append_assoc, ← List.append_assoc] at o1
      have z1 := sz2_app out i p o3
      have HO : Hd (AllA S R (out ++ [.agg [.int .i64 i, .str p]]) (subsL S i (elS.drop (k + 1)) ++ allL S elS (E.drop (i + 1))) (9 * i + (k + 1))) := Hd.mk ⟨o1, by simp; omega, z1⟩
      have a1 := roomS_ok out
      have a2 := roomS_app out (.agg [.int .i64 i, .str p])
      have a3 : szOk 2 [D.agg [.int .i64 i, .str p]] = true := rfl
      have a4 : lenOk (out.length + 1) 24 = true := by unfold lenOk; simp; omega
      clear hx2 hr2 hp o1 o2 hv hi hl hn hO
      repeat' (first|simp only [*, AVB, AVY, Yq.AVQ, ↓reduceIte, Nat.reduceEqDiff, Nat.reduceLT, Nat.reduceLeDiff, reduceCtorEq, Nat.reduceBEq, String.reduceBEq, Nat.reduceAdd, Nat.reduceSub, Nat.reduceMul, Int.reduceLE, Int.reduceLT, Int.reduceToNat, Int.reduceBEq, Int.reduceBNe, List.zipWith, dIntBin]|refine drW_intro (by kernel_rfl) ?_)
      exact hn2 _ ⟨k + 1, r5, _, h, L, L, L, L, L, L, L, L, L, HO⟩ Zq
     | false =>
      rw [hv] at hc
      rw [hv, if_neg (by decide), List.nil_append] at o1
      have HO : Hd (AllA S R out (subsL S i (elS.drop (k + 1)) ++ allL S elS (E.drop (i + 1))) (9 * i + (k + 1))) := Hd.mk ⟨o1, by omega, o3⟩
      clear hx2 hr2 hp o1 o2 o3 hv hi hl hn hO
      repeat' (first|simp only [*, AVB, AVY, Yq.AVQ, ↓reduceIte, Nat.reduceEqDiff, Nat.reduceLT, Nat.reduceLeDiff, reduceCtorEq, Nat.reduceBEq, String.reduceBEq, Nat.reduceAdd, Nat.reduceSub, Nat.reduceMul, Int.reduceLE, Int.reduceLT, Int.reduceToNat, Int.reduceBEq, Int.reduceBNe, List.zipWith, dIntBin]|refine drW_intro (by kernel_rfl) ?_)
      exact hn2 _ ⟨k + 1, r5, _, h, L, L, L, L, L, L, L, L, L, HO⟩ Zq
    ·have hk9 : k = 9 := by omega
     have k8 : ¬ (k : Int) < 9 := by omega
     have HO : Hd (AllA S R out (allL S elS (E.drop (i + 1))) (9 * (i + 1))) := by
      rw [hk9] at hO
      obtain ⟨o1, o2, o3⟩ := (show AllA S R out (subsL S i (elS.drop 9) ++ allL S elS (E.drop (i + 1))) (9 * i + 9) from hO)
      exact Hd.mk ⟨o1, by omega, o3⟩
     clear hn2 hr2 h hl hO hk9
     refine Gq ?_
     refine hx2 _ _ ?_
     refine Gq ?_
     have g9 : st.slot 9 = .int .i64 i := G9
     exact hn _ ⟨i + 1, r5, out, hi, L, L, L, L, L, L, L, L, HO⟩ Zq
  ·obtain rfl : i = m := by omega
   have k9 : ¬ (i : Int) < i := by omega
   obtain ⟨o1, o2, o3⟩ := (show AllA S R out (allL S elS (E.drop i)) (9 * i) from hO)
   rw [List.drop_eq_nil_of_le (Nat.le_of_eq (show E.length = i from HLE))] at o1
   have o4 : R = out := by rw [o1]; exact List.append_nil _
   subst o4
   clear hn hr h hl o1 o2 o3 hO
   refine Gq ?_
   exact hx _ _ Wq
end Go.Av
namespace Go.Av
open Go.Proofs
variable [R : Rk]
def slotZ (s : St) (j : Nat) : Int := match s.slot j with | .int _ i => i | _ => 0
theorem allL_form {S : Int → List UInt8 → Bool} {ps : List (List UInt8)} : ∀ {es : List Int} {x : D}, x ∈ allL S ps es → ∃ n p, x = .agg [.int .i64 n, .str p]
 | [], _, h => by cases h
 | n :: r, x, h => by
  rcases List.mem_append.1 h with h | h
  ·obtain ⟨p, _, rfl⟩ := List.mem_map.1 h
   exact ⟨n, p, rfl⟩
  ·exact allL_form h
theorem allL_len {S : Int → List UInt8 → Bool} : ∀ {es : List Int}, (allL S elS es).length ≤ 9 * es.length
 | [] => Nat.le_refl _
 | n :: r => by
  have h1 : (subsL S n elS).length ≤ 9 := by
   unfold subsL
   rw [List.length_map]
   exact List.length_filter_le _ _
  have h2 := allL_len (S := S) (es := r)
  show (subsL S n elS ++ allL S elS r).length ≤ _
  simp
  omega
theorem simpA_L (hA : RowA R) {chk : List D → Bool} {ns : List Nd} {nm : Nam} {s : D} {k : Nat} (hk : k ≤ 45) (hS : SmallD ns) (hR : RightT ns) (hn : nm.ok) (hs : smN k s = true) (n : Int) :
  callL Tryz.prog (ext11b chk) 17 [treeN ns, (sf s).d, .agg nm.cs, .int .i64 n] [] = some (.bool (elB ns n && sV ns nm s n), [.no], []) := by
 have h1 := elem37_L (chk := chk) ns n hS
 cases he : elB ns n with
 | false =>
  rw [he] at h1
  obtain ⟨T, hT⟩ := tree_fix ns
  generalize treeN ns = T0 at *
  subst hT
  unfold Nam.cs Sf.d at *
  generalize sf s = S at *
  clear he hs hn hS hR
  exact cWq 20 8 Tryz.func17
 | true =>
  rw [he] at h1
  have h2 : callL Tryz.prog (ext11b chk) 38 [eyeD ns nm, (sf s).d, .int .i64 n] [] = some (.bool (sV ns nm s n), [.no], []) := by
   cases k with
   | zero => simp [smN] at hs
   | succ k =>
    obtain ⟨h1, ha, hb, h4⟩ := smN_inv hs
    obtain ⟨e, _, g2, g3, _⟩ := smOk_inv h1
    have hv : sV ns nm s n = stepV ns nm (listV (sV ns nm) ns) (sf s).d n := by rw [sV_step h1 (by omega) n, ← e]
    rw [hv]
    have h5 : lsOk 100 (smOk 100 (k + 1)) (sf s).of_ = true := ls_mono (fun d hd => smOk_up _ _ (smN_ok hd) _ (by omega)) h4
    refine simple_L ns nm n (sf s) hn hS he (rowI_el hR he) (by omega) (by omega) ha hb (listV (sV ns nm) ns) fun j hj => ?_
    refine list_L ns nm j (sf s).of_ h5 (fun c => rowV (sV ns nm) ns (cxL c).reverse j) fun c hc => ?_
    obtain ⟨l, rfl, c1, c2⟩ := cxOk_inv ((lsOk_mem h4).2 c hc)
    exact rowA_L hA hS hR hn hj (okA_of (k := k) (by omega) ((lsOk_mem h4).2 _ hc))
  unfold eyeD at h2
  generalize sV ns nm s n = V at *
  obtain ⟨T, hT⟩ := tree_fix ns
  generalize treeN ns = T0 at *
  subst hT
  unfold Nam.cs Sf.d at *
  generalize sf s = S at *
  clear he hs hn hS hR
  cases V with
  | true =>
   exact cWq 20 8 Tryz.func17
  | false =>
   exact cWq 20 8 Tryz.func17
structure SmH (c17 c11 c18 : Int → Bool → Prop) (s : D) (S : Sf) : Prop where
 d : s = .agg [.int .i64 S.kd, .int .i64 S.ns, .str S.pre, .str S.nm, .int .i64 S.op, .str S.tx, .bool S.fold, .int .i64 S.mark, .int .i64 S.a, .int .i64 S.b, .list S.of_]
 c : ∀ n, ∃ v e, c17 n (e && v) ∧ c11 n e ∧ (e = true → c18 n v)
set_option maxHeartbeats 32000000 in
theorem all_law (hg0 : Gs.gl 0 = .fix (.agg elD) 0) (hA : RowA R) {f1 : Nat} (ns : List Nd) (a : List D) (nm : Nam) (hB : BigD ns) (hl : lsOk 140737488355328 (smOk 140737488355328 f1) a = true) (hn1 : nm.pre.length ≤ 140737488355328) (hn2 : nm.sps.length ≤ 140737488355328) :
  callL Tryz.prog (ext11b chkB) 5 [.list (ns.map Nd.d), .list a, .agg nm.cs] [] = some (.bool true, [.no], []) := by
 have h8 := sp8_L hA (chk := chkB)
 have h9 := rcheck_L (chk := chkB) ns hB
 have h10 := greatZ_L (chk := chkB) ns a nm hl hn1 hn2
 by_cases c1 : greatZ ns f1 a nm = true
 ·rw [c1] at h10
  unfold Nam.cs at *
  generalize ns.map Nd.d = NS at *
  generalize chkF ns = z at *
  clear c1 hB hl hn1 hn2
  exact cWq 120 6 Tryz.func5
 have c1 : greatZ ns f1 a nm = false := by simpa using c1
 rw [c1] at h10
 by_cases c2 : (chkF ns).1 = 0
 ·have hz := chkF_z c2
  rw [hz] at h9
  unfold greatZ at c1
  simp only [Bool.or_eq_false_iff, decide_eq_false_iff_not] at c1
  obtain ⟨g1, g2, g3, g4⟩ := c1
  have hS := great_smallD g1 (by decide)
  have hR := right_chk hz
  have hnm : nm.ok := by
   unfold gnF at g3
   simp only [Bool.or_eq_false_iff, decide_eq_false_iff_not] at g3
   exact ⟨by omega, by omega⟩
  have hls : lsOk 100 (smN 41) a = true := ls_num 41 a (cnt_small (most := 24) (by decide) (by decide) f1 a 0 41 rfl hl (by have : cnt 24 (f1 + 1) a ((0 : Nat) : Int) = cnt 24 (f1 + 1) a 0 := rfl; omega)) g4
  have h12 := new_L hS hz
  have q1 := all15_L (chk := chkB) hg0 ns (by have := hS.1; omega) a nm (selV ns nm a) fun n p => selA_L hA (k := 41) (by decide) hS hR hnm hls n p
  have q2 := all16_L (chk := chkB) ns (by have := hS.1; omega) a nm (selV ns nm a) fun n p => rselA_L (chk := chkB) (k := 41) (by decide) hS hR hnm hls n p
  have hel : ∀ n p, elB ns n = false → selV ns nm a n p = false := fun n p he => by
   unfold selV complexP
   simp [he]
  rw [← allL_el hel ns.length (Nat.le_refl _)] at q2
  have hfm : ∀ x ∈ allL (selV ns nm a) elS (elL ns ns.length), ∃ n p, x = .agg [.int .i64 n, .str p] := fun x hx => allL_form hx
  have hle : (allL (selV ns nm a) elS (elL ns ns.length)).length ≤ 1000000 := by
   have e1 := allL_len (S := selV ns nm a) (es := elL ns ns.length)
   have e2 := elL_len (ns := ns) (m := ns.length)
   have e3 := hS.1
   omega
  obtain ⟨la, hc⟩ := lsOk_mem hls
  obtain ⟨N0, hN0⟩ : ∃ N0, N0 = ns.length := ⟨_, rfl⟩
  have lN := lenM ns Nd.d
  have hN1 : ns.length ≤ 10000 := by have := hS.1; omega
  have hd : ∀ c ∈ a, c = .agg [.list (cxL c)] ∧ (cxL c).length ≤ 100 ∧ ∀ x ∈ cxL c, x = .agg [.int .i64 (cpC x), .list (cpL x)] ∧ (cpL x).length ≤ 100 ∧ ∀ s ∈ cpL x,
    SmH (fun n v => callL Tryz.prog (ext11b chkB) 17 [treeN ns, (sf s).d, .agg nm.cs, .int .i64 n] [] = some (.bool v, [.no], [])) (fun n v => callL Tryz.prog (ext11b chkB) 11 [.list (ns.map Nd.d), .int .i64 n] [] = some (.bool v, [.no], []))
     (fun n v => callL Tryz.prog (ext11b chkB) 18 [.list (ns.map Nd.d), (sf s).d, .agg nm.cs, .int .i64 n] [] = some (.bool v, [.no], [])) s (sf s) := fun c hm => by
   obtain ⟨l1, rfl, b1, b2⟩ := cxOk_inv (hc c hm)
   refine ⟨rfl, b1, fun x hx => ?_⟩
   obtain ⟨cc, l2, rfl, b3, b4⟩ := cpOk_inv (b2 x hx)
   refine ⟨rfl, b3, fun s hs => ?_⟩
   have h := b4 s hs
   refine ⟨(smOk_inv (smN_inv h).1).1, fun n => ⟨sV ns nm s n, elB ns n, simpA_L hA (by decide) hS hR hnm h n, relem_L ns n, fun he => rS18 hnm hS hR 41 (by decide) s h n he⟩⟩
  have HD := Hd.mk hd
  have HLA := Hd.mk la
  have HF := Hd.mk hfm
  have HLE := Hd.mk hle
  have HN1 := Hd.mk hN1
  generalize allL (selV ns nm a) elS (elL ns ns.length) = L1 at *
  have hbn : ((L1.length : Int) != (L1.length : Int)) = false := by simp
  unfold Nam.cs Sf.d at *
  obtain ⟨T, hTr⟩ := tree_fix ns
  generalize treeN ns = T0 at *
  subst hTr
  generalize ns.map Nd.d = NS at *
  generalize ns.length = N at *
  clear hB hl hn1 hn2 c2 hz g1 g2 g3 g4 hS hR hnm hls hc hd la hfm hle hel hN0 hN1
  refine cK 120 6 Tryz.func5 ?_
  repeat' (first|simp only [*, AVB, AVY, Yq.AVQ, ↓reduceIte, Nat.reduceEqDiff, Nat.reduceLT, Nat.reduceLeDiff, reduceCtorEq, Nat.reduceBEq, String.reduceBEq, Nat.reduceAdd, Nat.reduceSub, Nat.reduceMul, Int.reduceLE, Int.reduceLT, Int.reduceToNat, Int.reduceBEq, Int.reduceBNe, List.zipWith, dIntBin]|refine drW_intro (by kernel_rfl) ?_)
  refine loopH (fun st => ∃ (i : Nat) (r5 : List Room), i ≤ L1.length ∧ st.slot 62 = .int .i64 i ∧ st.slot 61 = .int .i64 L1.length ∧ st.slot 11 = .list L1 ∧ st.slot 12 = .list L1 ∧ st.slot 1 = .list a ∧ st.slot 0 = .list NS ∧ st.slot 9 = .fix T 0 ∧ st.slot 5 = .ptr 5 1 0 ∧ st.box 5 = some ⟨1, [.bool nm.has, .str nm.dft, .list (nm.pre.map .str), .list (nm.sps.map .str)], r5⟩) (fun st => L1.length - slotI st 62) ?_ ?_
  ·exact ⟨0, (padR [] 4).take 4, Nat.zero_le _, Iq, Iq, Iq, Iq, Iq, Iq, Iq, Iq, Iq⟩
  ·rintro st K ⟨i, r5, hi, g62, g61, g11, g12, g1, g0, g9, g5, b5⟩ hn hx hr
   have la : L1.length ≤ 1000000 := HLE
   by_cases h : i < L1.length
   ·have k9 : (i : Int) < L1.length := by omega
    have hw := wrapS i (by omega)
    obtain ⟨c, hc1⟩ := some_at h
    have hg := self_getD hc1
    obtain ⟨n0, p0, rfl⟩ := (show ∀ x ∈ L1, _ from HF) c (List.mem_of_getElem? hc1)
    clear hx hr hc1 la q1 q2
    repeat' (first|simp only [*, AVB, AVY, Yq.AVQ, ↓reduceIte, Nat.reduceEqDiff, Nat.reduceLT, Nat.reduceLeDiff, reduceCtorEq, Nat.reduceBEq, String.reduceBEq, Nat.reduceAdd, Nat.reduceSub, Nat.reduceMul, Int.reduceLE, Int.reduceLT, Int.reduceToNat, Int.reduceBEq, Int.reduceBNe, List.zipWith, dIntBin]|refine drW_intro (by kernel_rfl) ?_)
    exact hn _ ⟨i + 1, r5, h, L, L, L, L, L, L, L, L, L⟩ Zq
   ·have k9 : ¬ (i : Int) < L1.length := by omega
    clear hn hr h la q1 q2
    refine Gq ?_
    refine hx _ _ ?_
    refine Gq ?_
    clear g62 g61 g11 g12 k9 hi
    refine loopH (fun s2 => ∃ (i : Nat) (r5 : List Room), i ≤ a.length ∧ s2.slot 77 = .int .i64 i ∧ s2.slot 76 = .int .i64 a.length ∧ s2.slot 75 = .list a ∧ s2.slot 0 = .list NS ∧ s2.slot 9 = .fix T 0 ∧ s2.slot 5 = .ptr 5 1 0 ∧ s2.box 5 = some ⟨1, [.bool nm.has, .str nm.dft, .list (nm.pre.map .str), .list (nm.sps.map .str)], r5⟩) (fun s2 => a.length - slotI s2 77) ?_ ?_
    ·exact ⟨0, r5, Nat.zero_le _, Iq, Iq, Iq, Iq, Iq, Iq, Iq⟩
    ·rintro s2 K2 ⟨i, r5, hi, f77, f76, f75, f0, f9, f5, c5⟩ hn2 hx2 hr2
     clear g1 g0 g9 g5 b5 hx
     have la : a.length ≤ 100 := HLA
     by_cases h : i < a.length
     ·have k9 : (i : Int) < a.length := by omega
      have hw := wrapS i (by omega)
      obtain ⟨c, hc1⟩ := some_at h
      obtain ⟨e1, xl, hX⟩ := (show ∀ c ∈ a, _ from HD) c (List.mem_of_getElem? hc1)
      have hg := self_getD hc1
      generalize cxL c = X at *
      subst e1
      have HX := Hd.mk hX
      have HXL := Hd.mk xl
      have HI := Hd.mk h
      have HW := Hd.mk hw
      clear hx2 hr2 hc1 la hX xl h
      refine Gq ?_
      refine loopH (fun s3 => ∃ (k : Nat) (r5 : List Room), k ≤ X.length ∧ s3.slot 84 = .int .i64 k ∧ s3.slot 83 = .int .i64 X.length ∧ s3.slot 82 = .list X ∧ s3.slot 77 = .int .i64 i ∧ s3.slot 76 = .int .i64 a.length ∧ s3.slot 75 = .list a ∧ s3.slot 0 = .list NS ∧ s3.slot 9 = .fix T 0 ∧ s3.slot 5 = .ptr 5 1 0 ∧ s3.box 5 = some ⟨1, [.bool nm.has, .str nm.dft, .list (nm.pre.map .str), .list (nm.sps.map .str)], r5⟩) (fun s3 => X.length - slotI s3 84) ?_ ?_
      ·exact ⟨0, r5, Nat.zero_le _, Iq, Iq, Iq, Iq, Iq, Iq, Iq, Iq, Iq, Iq⟩
      ·rintro s3 K3 ⟨k, r5, hk, e84, e83, e82, e77, e76, e75, e0, e9, e5, d5⟩ hn3 hx3 hr3
       have F77 := Hd.mk f77
       clear f77 f76 f75 f0 f9 f5 c5 hg k9 hw
       have xl : X.length ≤ 100 := HXL
       by_cases h : k < X.length
       ·have k9 : (k : Int) < X.length := by omega
        have hw := wrapS k (by omega)
        obtain ⟨x, hx1⟩ := some_at h
        obtain ⟨e1, yl, hY⟩ := (show ∀ x ∈ X, _ from HX) x (List.mem_of_getElem? hx1)
        have hg := self_getD hx1
        generalize cpL x = Y at *
        generalize cpC x = cc at *
        subst e1
        have HY := Hd.mk hY
        have HYL := Hd.mk yl
        have HK := Hd.mk h
        clear hx3 hr3 hx1 xl hY yl h hn2
        refine Gq ?_
        refine loopH (fun s4 => ∃ (m : Nat) (r5 : List Room), m ≤ Y.length ∧ s4.slot 91 = .int .i64 m ∧ s4.slot 90 = .int .i64 Y.length ∧ s4.slot 89 = .list Y ∧ s4.slot 84 = .int .i64 k ∧ s4.slot 83 = .int .i64 X.length ∧ s4.slot 82 = .list X ∧ s4.slot 77 = .int .i64 i ∧ s4.slot 76 = .int .i64 a.length ∧ s4.slot 75 = .list a ∧ s4.slot 0 = .list NS ∧ s4.slot 9 = .fix T 0 ∧ s4.slot 5 = .ptr 5 1 0 ∧ s4.box 5 = some ⟨1, [.bool nm.has, .str nm.dft, .list (nm.pre.map .str), .list (nm.sps.map .str)], r5⟩) (fun s4 => Y.length - slotI s4 91) ?_ ?_
        ·exact ⟨0, r5, Nat.zero_le _, Iq, Iq, Iq, Iq, Iq, Iq, Iq, Iq, Iq, Iq, Iq, Iq, Iq⟩
        ·rintro s4 K4 ⟨m, r5, hm, u91, u90, u89, u84, u83, u82, u77, u76, u75, u0, u9, u5, w5⟩ hn4 hx4 hr4
         have E84 := Hd.mk e84
         clear e84 e83 e82 e77 e76 e75 e0 e9 e5 d5 hg k9 hw
         have yl : Y.length ≤ 100 := HYL
         by_cases h : m < Y.length
         ·have k9 : (m : Int) < Y.length := by omega
          have hw := wrapS m (by omega)
          obtain ⟨s, hs1⟩ := some_at h
          obtain ⟨e1, hZ⟩ := (show ∀ s ∈ Y, _ from HY) s (List.mem_of_getElem? hs1)
          have hg := self_getD hs1
          generalize sf s = S at *
          subst e1
          have HZ := Hd.mk hZ
          have HM := Hd.mk h
          clear hx4 hr4 hs1 yl hZ h hn3
          refine Gq ?_
          refine loopH (fun s5 => ∃ (j : Int) (g : Nat) (rs : List Room) (r5 : List Room), (-1 ≤ j ∧ j ≤ (N : Int) + 1) ∧ s5.slot 20 = .int .i64 j ∧ s5.slot 19 = .ptr 19 g 0 ∧ s5.box 19 = some ⟨g, [.int .i64 S.kd, .int .i64 S.ns, .str S.pre, .str S.nm, .int .i64 S.op, .str S.tx, .bool S.fold, .int .i64 S.mark, .int .i64 S.a, .int .i64 S.b, .list S.of_], rs⟩ ∧ s5.slot 91 = .int .i64 m ∧ s5.slot 90 = .int .i64 Y.length ∧ s5.slot 89 = .list Y ∧ s5.slot 84 = .int .i64 k ∧ s5.slot 83 = .int .i64 X.length ∧ s5.slot 82 = .list X ∧ s5.slot 77 = .int .i64 i ∧ s5.slot 76 = .int .i64 a.length ∧ s5.slot 75 = .list a ∧ s5.slot 0 = .list NS ∧ s5.slot 9 = .fix T 0 ∧ s5.slot 5 = .ptr 5 1 0 ∧ s5.box 5 = some ⟨1, [.bool nm.has, .str nm.dft, .list (nm.pre.map .str), .list (nm.sps.map .str)], r5⟩) (fun s5 => ((N : Int) + 1 - slotZ s5 20).toNat) ?_ ?_
          ·exact ⟨-1, s4.ctr 19, putR (zrooms Tryz.prog 42) 0 11 [], r5, ⟨by omega, by omega⟩, Iq, Iq, Iq, Iq, Iq, Iq, Iq, Iq, Iq, Iq, Iq, Iq, Iq, Iq, Iq, Iq⟩
          ·rintro s5 K5 ⟨j, g, rs, r5, ⟨j1, j2⟩, v20, v19, bx19, v91, v90, v89, v84, v83, v82, v77, v76, v75, v0, v9, v5, y5⟩ hn5 hx5 hr5
           have U91 := Hd.mk u91
           clear u91 u90 u89 u84 u83 u82 u77 u76 u75 u0 u9 u5 w5 hg k9 hw
           have hN : N ≤ 10000 := HN1
           by_cases h : j ≤ (N : Int)
           ·have hw := wrap64 (j + 1) (by omega) (by omega)
            obtain ⟨v, e, z1, z2, z3⟩ := (show ∀ n, _ from HZ) j
            clear hx5 hr5 hn4
            cases e with
            | false =>
             simp only [Bool.false_and] at z1
             clear z3
             refine Gq ?_
             refine hn5 _ ⟨j + 1, g, rs, r5, ⟨by omega, by omega⟩, L, L, L, L, L, L, L, L, L, L, L, L, L, L, L, L⟩ ?_
             ·simp only [slotZ, *, AVB, AVY, Yq.AVQ, ↓reduceIte, Nat.reduceEqDiff, Nat.reduceLT, Nat.reduceLeDiff, reduceCtorEq, Nat.reduceBEq, String.reduceBEq, Nat.reduceAdd, Nat.reduceSub, Nat.reduceMul, Int.reduceLE, Int.reduceLT, Int.reduceToNat, Int.reduceBEq, Int.reduceBNe, List.zipWith, dIntBin]
              omega
            | true =>
             have z3 := z3 rfl
             simp only [Bool.true_and] at z1
             cases v with
             | true =>
              refine Gq ?_
              refine hn5 _ ⟨j + 1, g, rs, r5, ⟨by omega, by omega⟩, L, L, L, L, L, L, L, L, L, L, L, L, L, L, L, L⟩ ?_
              ·simp only [slotZ, *, AVB, AVY, Yq.AVQ, ↓reduceIte, Nat.reduceEqDiff, Nat.reduceLT, Nat.reduceLeDiff, reduceCtorEq, Nat.reduceBEq, String.reduceBEq, Nat.reduceAdd, Nat.reduceSub, Nat.reduceMul, Int.reduceLE, Int.reduceLT, Int.reduceToNat, Int.reduceBEq, Int.reduceBNe, List.zipWith, dIntBin]
               omega
             | false =>
              refine Gq ?_
              refine hn5 _ ⟨j + 1, g, rs, r5, ⟨by omega, by omega⟩, L, L, L, L, L, L, L, L, L, L, L, L, L, L, L, L⟩ ?_
              ·simp only [slotZ, *, AVB, AVY, Yq.AVQ, ↓reduceIte, Nat.reduceEqDiff, Nat.reduceLT, Nat.reduceLeDiff, reduceCtorEq, Nat.reduceBEq, String.reduceBEq, Nat.reduceAdd, Nat.reduceSub, Nat.reduceMul, Int.reduceLE, Int.reduceLT, Int.reduceToNat, Int.reduceBEq, Int.reduceBNe, List.zipWith, dIntBin]
               omega
           ·have k9 : ¬ j ≤ (N : Int) := h
            have hw := wrapS m (by have : Y.length ≤ 100 := HYL; have : m < Y.length := HM; omega)
            have hM : m < Y.length := HM
            clear hn5 hr5 h hN
            refine Gq ?_
            refine hx5 _ _ ?_
            refine Gq ?_
            have u91 : s4.slot 91 = .int .i64 m := U91
            exact hn4 _ ⟨m + 1, r5, hM, L, L, L, L, L, L, L, L, L, L, L, L, L⟩ Zq
         ·have k9 : ¬ (m : Int) < Y.length := by omega
          have hK : k < X.length := HK
          have hw := wrapS k (by have : X.length ≤ 100 := HXL; omega)
          clear hn4 hr4 h yl
          refine Gq ?_
          refine hx4 _ _ ?_
          refine Gq ?_
          have e84 : s3.slot 84 = .int .i64 k := E84
          exact hn3 _ ⟨k + 1, r5, hK, L, L, L, L, L, L, L, L, L, L⟩ Zq
       ·have k9 : ¬ (k : Int) < X.length := by omega
        have hI : i < a.length := HI
        have hw : IntKind.i64.wrap ((i : Int) + 1) = ((i + 1 : Nat) : Int) := HW
        clear hn3 hr3 h xl
        refine Gq ?_
        refine hx3 _ _ ?_
        refine Gq ?_
        have f77 : s2.slot 77 = .int .i64 i := F77
        exact hn2 _ ⟨i + 1, r5, hI, L, L, L, L, L, L, L⟩ Zq
     ·have k9 : ¬ (i : Int) < a.length := by omega
      clear hn2 hr2 h la
      refine Gq ?_
      exact hx2 _ _ Wq
 ·obtain ⟨j1, j2, j3⟩ := neI c2
  unfold Nam.cs at *
  generalize ns.map Nd.d = NS at *
  generalize chkF ns = z at *
  clear c1 c2 hB hl hn1 hn2
  exact cWq 120 6 Tryz.func5
end Go.Av
